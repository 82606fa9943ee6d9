/-
  node: what a quiet node has of a blob.
  node: what a quiet node does with a message.
  node: Take of a quiet node; what it tells of itself.
-/
import Derived.Test.YtbeokgkcndcahaaGreatDoorQ21
import Derived.KernelRfl
set_option linter.all false
namespace Go.SX
open Go.Proofs
attribute [local irreducible] SX SXo
set_option maxRecDepth 20000
set_option maxHeartbeats 4000000
section
variable (K : Hp) (bn bs bt bv bb bw : Nat) (sw gv : Nat)
@[reducible] def blob0 : List Ch := [.d Dig.zero, .c (.int .i64 0), .c (.int .i64 0), .d Dig.zero]
theorem whole_ok (D : Dig) : TR Tryz.prog K 196 [evPtr bn, .g [.d D]] [.blk bn 73 (nodeC bs bt bv bb bw nilS sw gv), diskO bs]
    fun v r => v = .t [.g blob0, .o (.bool false)] ∧ r = [.blk bn 73 (nodeC bs bt bv bb bw nilS sw gv), diskO bs] := by
  refine tr_intro Tryz.func196 rfl rfl rfl fun cx hro hk hret => ?_
  refine sx_seq ?_
  refine sx_region ?_
  refine sxo_box rfl rfl rfl rfl rfl rfl (fun _ => ?_)
  refine sxo_alloc rfl rfl rfl rfl rfl rfl (fun _ => ?_)
  refine sxo_pure rfl rfl rfl trivial ?_
  refine sxo_end ?_
  refine sx_seq ?_
  refine sx_seq ?_
  refine sx_drawN 1 (by kernel_rfl) [0, 1, 2, 3, 4, 5, 6] [] (by kernel_rfl) ?_
  refine sxo_pure rfl rfl rfl trivial ?_
  refine sxo_pure rfl rfl rfl trivial ?_
  refine sxo_pure rfl rfl rfl trivial ?_
  refine sxo_load rfl rfl rfl (by exact .tail (.tail .head)) rfl rfl rfl rfl ?_
  refine sxo_load rfl rfl rfl (by exact .tail .head) rfl rfl rfl rfl ?_
  refine sxo_call0 rfl rfl rfl rfl (by (apply Take.cons; focus exact .tail (.tail (.tail .head))); exact .nil) (fun Kc hK hB => HasO Kc bs D) rfl rfl ?_ (hH := by rintro v m ⟨rfl, rfl⟩; (exact hh_nil))
  rintro v m ⟨rfl, rfl⟩
  simp only [List.cons_append, List.nil_append, List.append_nil, resV]
  refine sxo_pure rfl rfl rfl trivial ?_
  refine sxo_end ?_
  refine sx_condT rfl ?_
  refine sx_seq ?_
  refine sx_region ?_
  refine sxo_build rfl rfl rfl rfl rfl rfl rfl rfl rfl ?_
  refine sxo_store rfl rfl rfl rfl (by exact .tail .head) rfl rfl rfl rfl rfl ?_
  refine sxo_pure rfl rfl rfl trivial ?_
  refine sxo_end ?_
  refine sx_retL hret hro hk (.cell rfl (by exact .head) rfl rfl (.tmp rfl .nil)) ⟨rfl, rfl⟩ (by (apply Take.cons; focus exact .tail (.tail (.tail .head))); (apply Take.cons; focus exact .tail .head); exact .nil)
theorem part_ok (D : Dig) : TR Tryz.prog K 199 [evPtr bn, .g [.d D]] [.blk bn 73 (nodeC bs bt bv bb bw nilS sw gv), tabO bt]
    fun v r => v = .t [.g blob0, .o (.bool false)] ∧ r = [.blk bn 73 (nodeC bs bt bv bb bw nilS sw gv), tabO bt] := by
  refine tr_intro Tryz.func199 rfl rfl rfl fun cx hro hk hret => ?_
  refine sx_seq ?_
  refine sx_region ?_
  refine sxo_box rfl rfl rfl rfl rfl rfl (fun _ => ?_)
  refine sxo_alloc rfl rfl rfl rfl rfl rfl (fun _ => ?_)
  refine sxo_pure rfl rfl rfl trivial ?_
  refine sxo_end ?_
  refine sx_seq ?_
  refine sx_region ?_
  refine sxo_pure rfl rfl rfl trivial ?_
  refine sxo_pure rfl rfl rfl trivial ?_
  refine sxo_pure rfl rfl rfl trivial ?_
  refine sxo_load rfl rfl rfl (by exact .tail (.tail .head)) rfl rfl rfl rfl ?_
  refine sxo_call0 rfl rfl rfl rfl (by (apply Take.cons; focus exact .tail (.tail (.tail .head))); exact .nil) (fun Kc hK hB => BlobsO Kc bt) rfl rfl ?_ (hH := by rintro v m ⟨rfl, rfl⟩; (exact hh_nil))
  rintro v m ⟨rfl, rfl⟩
  simp only [List.cons_append, List.nil_append, List.append_nil, resV]
  refine sxo_pure rfl rfl rfl trivial ?_
  refine sxo_end ?_
  refine sx_seq ?_
  refine sx_region ?_
  refine sxo_pure rfl rfl rfl trivial ?_
  refine sxo_pure rfl rfl rfl trivial ?_
  refine sxo_call0 rfl rfl rfl rfl .nil (fun Kc hK hB => IdxBlob_ok Kc [] none 0 0 [] _ (fun _ => true) Reads.nil_ (by decide) ⟨fun _ _ x hx => nomatch hx⟩) rfl rfl ?_
  rintro v m ⟨⟨j, rfl, hj⟩, rfl⟩
  have hj' : j = -1 := by
    rcases hj with ⟨h, _⟩ | ⟨h1, h2, _⟩
    · exact h
    · simp at h2; omega
  subst hj'
  refine sxo_pure rfl rfl rfl trivial ?_
  refine sxo_end ?_
  refine sx_seq ?_
  refine sx_seq ?_
  refine sx_region ?_
  refine sxo_pure rfl rfl rfl trivial ?_
  refine sxo_pure rfl rfl rfl trivial ?_
  refine sxo_end ?_
  refine sx_condT rfl ?_
  refine sx_seq ?_
  refine sx_region ?_
  refine sxo_build rfl rfl rfl rfl rfl rfl rfl rfl rfl ?_
  refine sxo_store rfl rfl rfl rfl (by exact .tail .head) rfl rfl rfl rfl rfl ?_
  refine sxo_pure rfl rfl rfl trivial ?_
  refine sxo_end ?_
  refine sx_retL hret hro hk (.cell rfl (by exact .head) rfl rfl (.tmp rfl .nil)) ⟨rfl, rfl⟩ (by (apply Take.cons; focus exact .tail (.tail (.tail .head))); (apply Take.cons; focus exact .tail .head); exact .nil)
theorem nbits_ok (D : Dig) : TR Tryz.prog K 100 [evPtr bn, .g [.d D]] [.blk bn 73 (nodeC bs bt bv bb bw nilS sw gv), diskO bs, tabO bt]
    fun v r => v = .t [.o (.pointer none), .o (.bool false)] ∧ r = [.blk bn 73 (nodeC bs bt bv bb bw nilS sw gv), diskO bs, tabO bt] := by
  refine tr_intro Tryz.func100 rfl rfl rfl fun cx hro hk hret => ?_
  refine sx_seq ?_
  refine sx_region ?_
  refine sxo_box rfl rfl rfl rfl rfl rfl (fun _ => ?_)
  refine sxo_pure rfl rfl rfl trivial ?_
  refine sxo_pure rfl rfl rfl trivial ?_
  refine sxo_end ?_
  refine sx_seq ?_
  refine sx_seq ?_
  refine sx_region ?_
  refine sxo_pure rfl rfl rfl trivial ?_
  refine sxo_load rfl rfl rfl (by exact .head) rfl rfl rfl rfl ?_
  refine sxo_call0 rfl rfl rfl rfl (by (apply Take.cons; focus exact .tail .head); (apply Take.cons; focus exact .tail .head); exact .nil) (fun Kc hK hB => whole_ok Kc bn bs bt bv bb bw sw gv D) rfl rfl ?_ (hH := by rintro v m ⟨rfl, rfl⟩; (exact hh_nil))
  rintro v m ⟨rfl, rfl⟩
  simp only [List.cons_append, List.nil_append, List.append_nil, resV]
  refine sxo_pure rfl rfl rfl trivial ?_
  refine sxo_pure rfl rfl rfl trivial ?_
  refine sxo_pure rfl rfl rfl trivial ?_
  refine sxo_alloc rfl rfl rfl rfl rfl rfl (fun _ => ?_)
  refine sxo_store rfl rfl rfl rfl (by exact .head) rfl rfl rfl rfl rfl ?_
  refine sxo_pure rfl rfl rfl trivial ?_
  refine sxo_end ?_
  refine sx_seq ?_
  refine sx_region ?_
  refine sxo_pure rfl rfl rfl trivial ?_
  refine sxo_end ?_
  refine sx_condF rfl ?_
  refine sx_skip ?_
  refine sx_seq ?_
  refine sx_region ?_
  refine sxo_pure rfl rfl rfl trivial ?_
  refine sxo_load rfl rfl rfl (by exact .tail (.tail (.tail .head))) rfl rfl rfl rfl ?_
  refine sxo_call0 rfl rfl rfl rfl (by (apply Take.cons; focus exact .tail .head); (apply Take.cons; focus exact .tail (.tail (.tail .head))); exact .nil) (fun Kc hK hB => part_ok Kc bn bs bt bv bb bw sw gv D) rfl rfl ?_ (hH := by rintro v m ⟨rfl, rfl⟩; (exact hh_nil))
  rintro v m ⟨rfl, rfl⟩
  simp only [List.cons_append, List.nil_append, List.append_nil, resV]
  refine sxo_pure rfl rfl rfl trivial ?_
  refine sxo_pure rfl rfl rfl trivial ?_
  refine sxo_pure rfl rfl rfl trivial ?_
  refine sxo_alloc rfl rfl rfl rfl rfl rfl (fun _ => ?_)
  refine sxo_store rfl rfl rfl rfl (by exact .head) rfl rfl rfl rfl rfl ?_
  refine sxo_pure rfl rfl rfl trivial ?_
  refine sxo_end ?_
  refine sx_seq ?_
  refine sx_seq ?_
  refine sx_region ?_
  refine sxo_pure rfl rfl rfl trivial ?_
  refine sxo_pure rfl rfl rfl trivial ?_
  refine sxo_end ?_
  refine sx_condT rfl ?_
  refine sx_seq ?_
  refine sx_region ?_
  refine sxo_pure rfl rfl rfl trivial ?_
  refine sxo_pure rfl rfl rfl trivial ?_
  refine sxo_end ?_
  refine sx_retL hret hro hk (.tmp rfl (.tmp rfl .nil)) ⟨rfl, rfl⟩ (by (apply Take.cons; focus exact .tail .head); (apply Take.cons; focus exact .tail (.tail (.tail .head))); (apply Take.cons; focus exact .tail .head); exact .nil)
theorem npiece_ok (D : Dig) (i : Int) : TR Tryz.prog K 201 [evPtr bn, .g [.d D], .o (.int .i64 i)] [.blk bn 73 (nodeC bs bt bv bb bw nilS sw gv), diskO bs, tabO bt]
    fun v r => v = .t [.o (.slice none 0 0), .o (.slice none 0 0), .o (.bool false)] ∧ r = [.blk bn 73 (nodeC bs bt bv bb bw nilS sw gv), diskO bs, tabO bt] := by
  refine tr_intro Tryz.func201 rfl rfl rfl fun cx hro hk hret => ?_
  refine sx_seq ?_
  refine sx_region ?_
  refine sxo_box rfl rfl rfl rfl rfl rfl (fun _ => ?_)
  refine sxo_pure rfl rfl rfl trivial ?_
  refine sxo_pure rfl rfl rfl trivial ?_
  refine sxo_pure rfl rfl rfl trivial ?_
  refine sxo_end ?_
  refine sx_seq ?_
  refine sx_region ?_
  refine sxo_pure rfl rfl rfl trivial ?_
  refine sxo_load rfl rfl rfl (by exact .head) rfl rfl rfl rfl ?_
  refine sxo_call0 rfl rfl rfl rfl (by (apply Take.cons; focus exact .tail .head); (apply Take.cons; focus exact .tail .head); exact .nil) (fun Kc hK hB => whole_ok Kc bn bs bt bv bb bw sw gv D) rfl rfl ?_ (hH := by rintro v m ⟨rfl, rfl⟩; (exact hh_nil))
  rintro v m ⟨rfl, rfl⟩
  simp only [List.cons_append, List.nil_append, List.append_nil, resV]
  refine sxo_pure rfl rfl rfl trivial ?_
  refine sxo_pure rfl rfl rfl trivial ?_
  refine sxo_pure rfl rfl rfl trivial ?_
  refine sxo_alloc rfl rfl rfl rfl rfl rfl (fun _ => ?_)
  refine sxo_store rfl rfl rfl rfl (by exact .head) rfl rfl rfl rfl rfl ?_
  refine sxo_pure rfl rfl rfl trivial ?_
  refine sxo_end ?_
  refine sx_seq ?_
  refine sx_seq ?_
  refine sx_region ?_
  refine sxo_pure rfl rfl rfl trivial ?_
  refine sxo_pure rfl rfl rfl trivial ?_
  refine sxo_end ?_
  refine sx_condT rfl ?_
  refine sx_seq ?_
  refine sx_seq ?_
  refine sx_region ?_
  refine sxo_pure rfl rfl rfl trivial ?_
  refine sxo_load rfl rfl rfl (by exact .tail (.tail (.tail .head))) rfl rfl rfl rfl ?_
  refine sxo_call0 rfl rfl rfl rfl (by (apply Take.cons; focus exact .tail .head); (apply Take.cons; focus exact .tail (.tail (.tail .head))); exact .nil) (fun Kc hK hB => part_ok Kc bn bs bt bv bb bw sw gv D) rfl rfl ?_ (hH := by rintro v m ⟨rfl, rfl⟩; (exact hh_nil))
  rintro v m ⟨rfl, rfl⟩
  simp only [List.cons_append, List.nil_append, List.append_nil, resV]
  refine sxo_pure rfl rfl rfl trivial ?_
  refine sxo_pure rfl rfl rfl trivial ?_
  refine sxo_pure rfl rfl rfl trivial ?_
  refine sxo_store rfl rfl rfl rfl (by exact .tail (.tail .head)) rfl rfl rfl rfl rfl ?_
  refine sxo_pure rfl rfl rfl trivial ?_
  refine sxo_end ?_
  refine sx_seq ?_
  refine sx_region ?_
  refine sxo_pure rfl rfl rfl trivial ?_
  refine sxo_pure rfl rfl rfl trivial ?_
  refine sxo_end ?_
  refine sx_condT rfl ?_
  refine sx_seq ?_
  refine sx_region ?_
  refine sxo_pure rfl rfl rfl trivial ?_
  refine sxo_pure rfl rfl rfl trivial ?_
  refine sxo_pure rfl rfl rfl trivial ?_
  refine sxo_end ?_
  refine sx_retL hret hro hk (.tmp rfl (.tmp rfl (.tmp rfl .nil))) ⟨rfl, rfl⟩ (by (apply Take.cons; focus exact .tail .head); (apply Take.cons; focus exact .tail (.tail .head)); (apply Take.cons; focus exact .tail .head); exact .nil)
theorem give_ok (from_ : Int) (m : Msg) : TR Tryz.prog K 103 [evPtr bn, .o (.int .i64 from_), evMsg m] [.blk bn 73 (nodeC bs bt bv bb bw nilS sw gv), diskO bs, tabO bt]
    fun v r => (∃ m' : Msg, v = .s (evMsg m')) ∧ r = [.blk bn 73 (nodeC bs bt bv bb bw nilS sw gv), diskO bs, tabO bt] := by
  refine tr_intro Tryz.func103 rfl rfl rfl fun cx hro hk hret => ?_
  refine sx_seq ?_
  refine sx_region ?_
  refine sxo_box rfl rfl rfl rfl rfl rfl (fun _ => ?_)
  refine sxo_alloc rfl rfl rfl rfl rfl rfl (fun _ => ?_)
  refine sxo_end ?_
  refine sx_seq ?_
  refine sx_region ?_
  refine sxo_pure rfl rfl rfl trivial ?_
  refine sxo_pure rfl rfl rfl trivial ?_
  refine sxo_load rfl rfl rfl (by exact .tail .head) rfl rfl rfl rfl ?_
  refine sxo_pure rfl rfl rfl trivial ?_
  refine sxo_load rfl rfl rfl (by exact .tail .head) rfl rfl rfl rfl ?_
  refine sxo_call0 rfl rfl rfl rfl (by (apply Take.cons; focus exact .tail (.tail .head)); (apply Take.cons; focus exact .tail (.tail .head)); (apply Take.cons; focus exact .tail (.tail .head)); exact .nil) (fun Kc hK hB => npiece_ok Kc bn bs bt bv bb bw sw gv m.hash m.piece) rfl rfl ?_ (hH := by rintro v m ⟨rfl, rfl⟩; (exact hh_nil))
  rintro v m ⟨rfl, rfl⟩
  simp only [List.cons_append, List.nil_append, List.append_nil, resV]
  refine sxo_pure rfl rfl rfl trivial ?_
  refine sxo_pure rfl rfl rfl trivial ?_
  refine sxo_pure rfl rfl rfl trivial ?_
  refine sxo_pure rfl rfl rfl trivial ?_
  refine sxo_pure rfl rfl rfl trivial ?_
  refine sxo_pure rfl rfl rfl trivial ?_
  refine sxo_pure rfl rfl rfl trivial ?_
  refine sxo_end ?_
  refine sx_seq ?_
  refine sx_seq ?_
  refine sx_region ?_
  refine sxo_pure rfl rfl rfl trivial ?_
  refine sxo_pure rfl rfl rfl trivial ?_
  refine sxo_pure rfl rfl rfl trivial ?_
  refine sxo_pass rfl rfl rfl ?_
  refine sxo_pass rfl rfl rfl ?_
  refine sxo_pass rfl rfl rfl ?_
  refine sxo_pass rfl rfl rfl ?_
  refine sxo_pass rfl rfl rfl ?_
  refine sxo_pass rfl rfl rfl ?_
  refine sxo_pass rfl rfl rfl ?_
  refine sxo_pure rfl rfl rfl trivial ?_
  refine sxo_end ?_
  refine sx_condT rfl ?_
  refine sx_seq ?_
  refine sx_region ?_
  refine sxo_pure rfl rfl rfl trivial ?_
  refine sxo_load rfl rfl rfl (by exact .tail (.tail (.tail (.tail .head)))) rfl rfl rfl rfl ?_
  refine sxo_pure rfl rfl rfl trivial ?_
  refine sxo_load rfl rfl rfl (by exact .tail (.tail (.tail (.tail .head)))) rfl rfl rfl rfl ?_
  refine sxo_build rfl rfl rfl rfl rfl rfl rfl rfl rfl ?_
  refine sxo_store rfl rfl rfl rfl (by exact .tail (.tail (.tail .head))) rfl rfl rfl rfl rfl ?_
  refine sxo_end ?_
  refine sx_retL hret hro hk (.cell rfl (by exact .head) rfl rfl .nil) ⟨⟨⟨5, m.hash, m.piece, nilS, nilS, nilS, nilS, false⟩, rfl⟩, rfl⟩ (by (apply Take.cons; focus exact .tail .head); (apply Take.cons; focus exact .tail .head); (apply Take.cons; focus exact .tail .head); exact .nil)
theorem ofPeer1_ok (b : Nat) (g : Giver) : TR Tryz.prog K 102 [evPtr b] [.blk b 161 [.c (.int .i64 g.bytes), .c (.bool g.wants)]]
    fun _ r => r = [.blk b 161 [.c (.int .i64 g.bytes), .c (.bool true)]] := by
  refine tr_intro Tryz.func102 rfl rfl rfl fun cx hro hk hret => ?_
  refine sx_region ?_
  refine sxo_pure rfl rfl rfl trivial ?_
  refine sxo_pure rfl rfl rfl trivial ?_
  refine sxo_pure rfl rfl rfl trivial ?_
  refine sxo_store rfl rfl rfl rfl (by exact .head) rfl rfl rfl rfl rfl ?_
  refine sxo_end ?_
  refine sx_endL hret hro hk .nil rfl (by (apply Take.cons; focus exact .head); exact .nil)
theorem note_ok (g : List (Int × Giver)) (hg : g.length ≤ 5) (id : Int) : TR Tryz.prog K 91 [evPtr bn, .o (.int .i64 id), .o (.func (.func 102) #[] #[])] [.blk bn 73 (nodeC bs bt bv bb bw nilS sw gv), .map gv ekInt evGiver g]
    fun _ r => ∃ g', g'.length ≤ 5 ∧ r = [.blk bn 73 (nodeC bs bt bv bb bw nilS sw gv), .map gv ekInt evGiver g'] := by
  refine tr_intro Tryz.func91 rfl rfl rfl fun cx hro hk hret => ?_
  refine sx_seq ?_
  refine sx_region ?_
  refine sxo_pure rfl rfl rfl trivial ?_
  refine sxo_pure rfl rfl rfl trivial ?_
  refine sxo_pure rfl rfl rfl trivial ?_
  refine sxo_load rfl rfl rfl (by exact .head) rfl rfl rfl rfl ?_
  refine sxo_pure rfl rfl rfl trivial ?_
  refine sxo_lookupOk ekInt _ HasZ.z rfl rfl rfl rfl (by exact .tail .head) rfl rfl (kt_int rfl rfl) rfl rfl rfl rfl rfl ?_
  refine sxo_pure rfl rfl rfl trivial ?_
  refine sxo_pure rfl rfl rfl trivial ?_
  refine sxo_pure rfl rfl rfl trivial ?_
  refine sxo_alloc rfl rfl rfl rfl rfl rfl (fun _ => ?_)
  refine sxo_store rfl rfl rfl rfl (by exact .head) rfl rfl rfl rfl rfl ?_
  refine sxo_pure rfl rfl rfl trivial ?_
  refine sxo_end ?_
  refine sx_seq ?_
  refine sx_seq ?_
  refine sx_drawN 1 (by kernel_rfl) [0, 1, 2, 3, 4, 5, 6, 7, 8, 9, 10, 11, 12, 13, 14] [] (by kernel_rfl) ?_
  refine sxo_pure rfl rfl rfl trivial ?_
  refine sxo_pure rfl rfl rfl trivial ?_
  refine sxo_pure rfl rfl rfl trivial ?_
  rename_i b
  rcases hget : mget g id with _ | x
  · refine sxo_pure rfl rfl rfl trivial ?_
    refine sxo_pure rfl rfl rfl trivial ?_
    refine sxo_pure rfl rfl rfl trivial ?_
    refine sxo_load rfl rfl rfl (by exact .tail .head) rfl rfl rfl rfl ?_
    refine sxo_lenMap rfl rfl rfl (by exact .tail (.tail .head)) rfl rfl rfl rfl ?_
    refine sxo_pure rfl rfl rfl trivial ?_
    refine sxo_pure rfl rfl rfl trivial ?_
    refine sxo_pure rfl rfl rfl trivial ?_
    refine sxo_pure rfl rfl rfl trivial ?_
    refine sxo_load rfl rfl rfl (by exact .tail .head) rfl rfl rfl rfl ?_
    refine sxo_pure rfl rfl rfl trivial ?_
    refine sxo_pure rfl rfl rfl trivial ?_
    refine sxo_end ?_
    refine sx_cond rfl (fun h => ?_) (fun h => ?_)
    · refine sx_retL hret hro hk .nil ⟨g, hg, rfl⟩ (by (apply Take.cons; focus exact .tail .head); (apply Take.cons; focus exact .tail .head); exact .nil)
    · simp at h
      refine sx_skip ?_
      refine sx_seq ?_
      refine sx_region ?_
      refine sxo_pure rfl rfl rfl trivial ?_
      refine sxo_call0 rfl rfl rfl rfl (by (apply Take.cons; focus exact .head); exact .nil) (fun Kc hK hB => ofPeer1_ok Kc b HasZ.z) rfl rfl ?_ (hH := by rintro v m rfl; (exact hh_nil))
      rintro v m rfl
      simp only [List.cons_append, List.nil_append, List.append_nil, resV]
      refine sxo_end ?_
      refine sx_drawN 3 (by kernel_rfl) [0, 1, 2, 3, 4, 5, 6] [] (by kernel_rfl) ?_
      refine sxo_pure rfl rfl rfl trivial ?_
      refine sxo_pure rfl rfl rfl trivial ?_
      refine sxo_pure rfl rfl rfl trivial ?_
      refine sxo_load rfl rfl rfl (by exact .tail .head) rfl rfl rfl rfl ?_
      refine sxo_pure rfl rfl rfl trivial ?_
      refine sxo_load rfl rfl rfl (by exact .head) rfl rfl rfl rfl ?_
      refine sxo_update ekInt _ (v := (⟨0, true⟩ : Giver)) (.inl rfl) rfl rfl rfl rfl (by exact .tail (.tail .head)) rfl rfl (kt_int rfl rfl) rfl rfl ?_
      refine sxo_end ?_
      refine sx_endL hret hro hk .nil ⟨mput g id ⟨0, true⟩, ?_, rfl⟩ (by (apply Take.cons; focus exact .tail (.tail .head)); (apply Take.cons; focus exact .head); exact .nil)
      rw [mput_length]; split <;> omega
  · refine sxo_pass rfl rfl rfl ?_
    refine sxo_pass rfl rfl rfl ?_
    refine sxo_pass rfl rfl rfl ?_
    refine sxo_pass rfl rfl rfl ?_
    refine sxo_pass rfl rfl rfl ?_
    refine sxo_pass rfl rfl rfl ?_
    refine sxo_pass rfl rfl rfl ?_
    refine sxo_pass rfl rfl rfl ?_
    refine sxo_pass rfl rfl rfl ?_
    refine sxo_pass rfl rfl rfl ?_
    refine sxo_pass rfl rfl rfl ?_
    refine sxo_pure rfl rfl rfl trivial ?_
    refine sxo_end ?_
    refine sx_condF rfl ?_
    refine sx_skip ?_
    refine sx_seq ?_
    refine sx_region ?_
    refine sxo_pure rfl rfl rfl trivial ?_
    refine sxo_call0 rfl rfl rfl rfl (by (apply Take.cons; focus exact .head); exact .nil) (fun Kc hK hB => ofPeer1_ok Kc b x) rfl rfl ?_ (hH := by rintro v m rfl; (exact hh_nil))
    rintro v m rfl
    simp only [List.cons_append, List.nil_append, List.append_nil, resV]
    refine sxo_end ?_
    refine sx_drawN 3 (by kernel_rfl) [0, 1, 2, 3, 4, 5, 6] [] (by kernel_rfl) ?_
    refine sxo_pure rfl rfl rfl trivial ?_
    refine sxo_pure rfl rfl rfl trivial ?_
    refine sxo_pure rfl rfl rfl trivial ?_
    refine sxo_load rfl rfl rfl (by exact .tail .head) rfl rfl rfl rfl ?_
    refine sxo_pure rfl rfl rfl trivial ?_
    refine sxo_load rfl rfl rfl (by exact .head) rfl rfl rfl rfl ?_
    refine sxo_update ekInt _ (v := (⟨x.bytes, true⟩ : Giver)) (.inl rfl) rfl rfl rfl rfl (by exact .tail (.tail .head)) rfl rfl (kt_int rfl rfl) rfl rfl ?_
    refine sxo_end ?_
    refine sx_endL hret hro hk .nil ⟨mput g id ⟨x.bytes, true⟩, ?_, rfl⟩ (by (apply Take.cons; focus exact .tail (.tail .head)); (apply Take.cons; focus exact .head); exact .nil)
    rw [mput_length, if_pos (List.mem_map.2 ⟨_, mget_some hget, rfl⟩)]; exact hg
end
end Go.SX

namespace Go.SX
open Go.Proofs
attribute [local irreducible] SX SXo
set_option maxRecDepth 20000
set_option maxHeartbeats 4000000
section
variable (K : Hp) (bn bs bt bv bb bw : Nat) (sw gv : Nat)
theorem given_ok (from_ now : Int) (m : Msg) : TR Tryz.prog K 39 [evPtr bn, .o (.int .i64 from_), .o (.int .i64 now), evMsg m] [.blk bn 73 (nodeC bs bt bv bb bw nilS sw gv), .map sw ekDig evPO []]
    fun v r => v = .t [.o (.slice none 0 0), .o (.int .i64 0)] ∧ r = [.blk bn 73 (nodeC bs bt bv bb bw nilS sw gv), .map sw ekDig evPO []] := by
  refine tr_intro Tryz.func39 rfl rfl rfl fun cx hro hk hret => ?_
  refine sx_seq ?_
  refine sx_region ?_
  refine sxo_box rfl rfl rfl rfl rfl rfl (fun _ => ?_)
  refine sxo_pure rfl rfl rfl trivial ?_
  refine sxo_pure rfl rfl rfl trivial ?_
  refine sxo_end ?_
  refine sx_seq ?_
  refine sx_drawN 1 (by kernel_rfl) [0, 1, 2, 3, 4, 5, 6, 7, 8, 9, 10, 11] [] (by kernel_rfl) ?_
  refine sxo_pure rfl rfl rfl trivial ?_
  refine sxo_pure rfl rfl rfl trivial ?_
  refine sxo_pure rfl rfl rfl trivial ?_
  refine sxo_load rfl rfl rfl (by exact .tail .head) rfl rfl rfl rfl ?_
  refine sxo_pure rfl rfl rfl trivial ?_
  refine sxo_load rfl rfl rfl (by exact .head) rfl rfl rfl rfl ?_
  refine sxo_lookupDig (ev' := evPO) (z0 := (none : Option Nat)) rfl rfl rfl rfl (by exact .tail (.tail .head)) rfl rfl rfl rfl rfl rfl rfl rfl rfl rfl rfl rfl ?_
  refine sxo_pure rfl rfl rfl trivial ?_
  refine sxo_pure rfl rfl rfl trivial ?_
  refine sxo_pure rfl rfl rfl trivial ?_
  refine sxo_pure rfl rfl rfl trivial ?_
  refine sxo_pure rfl rfl rfl trivial ?_
  refine sxo_end ?_
  refine sx_seq ?_
  refine sx_seq ?_
  refine sx_drawN 2 (by kernel_rfl) [0, 1, 2, 3, 4, 5, 6, 7, 8, 9, 10, 11, 12] [] (by kernel_rfl) ?_
  refine sxo_pure rfl rfl rfl trivial ?_
  refine sxo_pure rfl rfl rfl trivial ?_
  refine sxo_pure rfl rfl rfl trivial ?_
  refine sxo_pass rfl rfl rfl ?_
  refine sxo_pass rfl rfl rfl ?_
  refine sxo_pass rfl rfl rfl ?_
  refine sxo_pass rfl rfl rfl ?_
  refine sxo_pass rfl rfl rfl ?_
  refine sxo_pass rfl rfl rfl ?_
  refine sxo_pass rfl rfl rfl ?_
  refine sxo_pass rfl rfl rfl ?_
  refine sxo_pass rfl rfl rfl ?_
  refine sxo_pure rfl rfl rfl trivial ?_
  refine sxo_end ?_
  refine sx_condT rfl ?_
  refine sx_seq ?_
  refine sx_region ?_
  refine sxo_pure rfl rfl rfl trivial ?_
  refine sxo_pure rfl rfl rfl trivial ?_
  refine sxo_end ?_
  refine sx_retL hret hro hk (.tmp rfl (.tmp rfl .nil)) ⟨rfl, rfl⟩ (by (apply Take.cons; focus exact .tail .head); (apply Take.cons; focus exact .tail .head); exact .nil)
theorem peers_ok (now : Int) (m : Msg) : TR Tryz.prog K 96 [evPtr bn, .o (.int .i64 now), evMsg m] [.blk bn 73 (nodeC bs bt bv bb bw nilS sw gv), .map sw ekDig evPO []]
    fun v r => v = .s (.o (.slice none 0 0)) ∧ r = [.blk bn 73 (nodeC bs bt bv bb bw nilS sw gv), .map sw ekDig evPO []] := by
  refine tr_intro Tryz.func96 rfl rfl rfl fun cx hro hk hret => ?_
  refine sx_seq ?_
  refine sx_region ?_
  refine sxo_box rfl rfl rfl rfl rfl rfl (fun _ => ?_)
  refine sxo_pure rfl rfl rfl trivial ?_
  refine sxo_end ?_
  refine sx_seq ?_
  refine sx_region ?_
  refine sxo_pure rfl rfl rfl trivial ?_
  refine sxo_end ?_
  refine sx_seq ?_
  refine sx_seq ?_
  refine sx_drawN 2 (by kernel_rfl) [0, 1, 2, 3, 4, 5, 6, 7, 8, 9, 10, 11] [] (by kernel_rfl) ?_
  refine sxo_pure rfl rfl rfl trivial ?_
  refine sxo_pure rfl rfl rfl trivial ?_
  refine sxo_pure rfl rfl rfl trivial ?_
  refine sxo_load rfl rfl rfl (by exact .tail .head) rfl rfl rfl rfl ?_
  refine sxo_pure rfl rfl rfl trivial ?_
  refine sxo_load rfl rfl rfl (by exact .head) rfl rfl rfl rfl ?_
  refine sxo_lookupDig (ev' := evPO) (z0 := (none : Option Nat)) rfl rfl rfl rfl (by exact .tail (.tail .head)) rfl rfl rfl rfl rfl rfl rfl rfl rfl rfl rfl rfl ?_
  refine sxo_pure rfl rfl rfl trivial ?_
  refine sxo_pure rfl rfl rfl trivial ?_
  refine sxo_pure rfl rfl rfl trivial ?_
  refine sxo_pure rfl rfl rfl trivial ?_
  refine sxo_pure rfl rfl rfl trivial ?_
  refine sxo_end ?_
  refine sx_seq ?_
  refine sx_region ?_
  refine sxo_pure rfl rfl rfl trivial ?_
  refine sxo_pure rfl rfl rfl trivial ?_
  refine sxo_end ?_
  refine sx_condT rfl ?_
  refine sx_seq ?_
  refine sx_region ?_
  refine sxo_pure rfl rfl rfl trivial ?_
  refine sxo_end ?_
  refine sx_retL hret hro hk (.tmp rfl .nil) ⟨rfl, rfl⟩ (by (apply Take.cons; focus exact .tail .head); (apply Take.cons; focus exact .tail .head); exact .nil)
theorem ofOrigin_ok (now : Int) (m : Msg) : TR Tryz.prog K 41 [evPtr bn, .o (.int .i64 now), evMsg m] [.blk bn 73 (nodeC bs bt bv bb bw nilS sw gv), .map sw ekDig evPO []]
    fun v r => v = .s (.o (.slice none 0 0)) ∧ r = [.blk bn 73 (nodeC bs bt bv bb bw nilS sw gv), .map sw ekDig evPO []] := by
  refine tr_intro Tryz.func41 rfl rfl rfl fun cx hro hk hret => ?_
  refine sx_seq ?_
  refine sx_region ?_
  refine sxo_box rfl rfl rfl rfl rfl rfl (fun _ => ?_)
  refine sxo_pure rfl rfl rfl trivial ?_
  refine sxo_end ?_
  refine sx_seq ?_
  refine sx_seq ?_
  refine sx_region ?_
  refine sxo_pure rfl rfl rfl trivial ?_
  refine sxo_load rfl rfl rfl (by exact .head) rfl rfl rfl rfl ?_
  refine sxo_pure rfl rfl rfl trivial ?_
  refine sxo_end ?_
  refine sx_cond rfl (fun h => ?_) (fun h => ?_)
  · refine sx_seq ?_
    refine sx_region ?_
    refine sxo_pure rfl rfl rfl trivial ?_
    refine sxo_pure rfl rfl rfl trivial ?_
    refine sxo_load rfl rfl rfl (by exact .head) rfl rfl rfl rfl ?_
    refine sxo_call0 rfl rfl rfl rfl (by (apply Take.cons; focus exact .tail .head); (apply Take.cons; focus exact .tail .head); exact .nil) (fun Kc hK hB => peers_ok Kc bn bs bt bv bb bw sw gv now m) rfl rfl ?_ (hH := by rintro v m ⟨rfl, rfl⟩; (exact hh_nil))
    rintro v m ⟨rfl, rfl⟩
    simp only [List.cons_append, List.nil_append, List.append_nil, resV]
    refine sxo_pure rfl rfl rfl trivial ?_
    refine sxo_end ?_
    refine sx_retL hret hro hk (.tmp rfl .nil) ⟨rfl, rfl⟩ (by (apply Take.cons; focus exact .head); (apply Take.cons; focus exact .head); exact .nil)
  · refine sx_skip ?_
    refine sx_seq ?_
    refine sx_region ?_
    refine sxo_pure rfl rfl rfl trivial ?_
    refine sxo_pure rfl rfl rfl trivial ?_
    refine sxo_load rfl rfl rfl (by exact .head) rfl rfl rfl rfl ?_
    refine sxo_call0 rfl rfl rfl rfl (by (apply Take.cons; focus exact .tail .head); exact .nil) (fun Kc hK hB => nfind_ok Kc bn bs bt bv bb bw sw gv m.hash) rfl rfl ?_ (hH := by rintro v m ⟨rfl, rfl⟩; (exact hh_nil))
    rintro v m ⟨rfl, rfl⟩
    simp only [List.cons_append, List.nil_append, List.append_nil, resV]
    refine sxo_pure rfl rfl rfl trivial ?_
    refine sxo_end ?_
    refine sx_seq ?_
    refine sx_seq ?_
    refine sx_region ?_
    refine sxo_pure rfl rfl rfl trivial ?_
    refine sxo_pure rfl rfl rfl trivial ?_
    refine sxo_pure rfl rfl rfl trivial ?_
    refine sxo_pass rfl rfl rfl ?_
    refine sxo_pass rfl rfl rfl ?_
    refine sxo_pass rfl rfl rfl ?_
    refine sxo_pass rfl rfl rfl ?_
    refine sxo_pass rfl rfl rfl ?_
    refine sxo_pass rfl rfl rfl ?_
    refine sxo_pass rfl rfl rfl ?_
    refine sxo_pass rfl rfl rfl ?_
    refine sxo_pass rfl rfl rfl ?_
    refine sxo_pass rfl rfl rfl ?_
    refine sxo_pass rfl rfl rfl ?_
    refine sxo_pure rfl rfl rfl trivial ?_
    refine sxo_pure rfl rfl rfl trivial ?_
    refine sxo_pass rfl rfl rfl ?_
    refine sxo_pass rfl rfl rfl ?_
    refine sxo_pass rfl rfl rfl ?_
    refine sxo_pass rfl rfl rfl ?_
    refine sxo_pass rfl rfl rfl ?_
    refine sxo_pass rfl rfl rfl ?_
    refine sxo_pass rfl rfl rfl ?_
    refine sxo_pass rfl rfl rfl ?_
    refine sxo_pass rfl rfl rfl ?_
    refine sxo_pass rfl rfl rfl ?_
    refine sxo_pass rfl rfl rfl ?_
    refine sxo_pure rfl rfl rfl trivial ?_
    refine sxo_end ?_
    refine sx_condT rfl ?_
    refine sx_seq ?_
    refine sx_region ?_
    refine sxo_pure rfl rfl rfl trivial ?_
    refine sxo_end ?_
    refine sx_retL hret hro hk (.tmp rfl .nil) ⟨rfl, rfl⟩ (by (apply Take.cons; focus exact .head); (apply Take.cons; focus exact .tail .head); exact .nil)
theorem ofPeer_ok (from_ now : Int) (mg : Msg) (lm : List Member) (hlm : VecRd mg.mems 101 4 encM lm K) (hml : lm.length < 4611686018427387904) (m : List (Int × Member)) (hm : m.length ≤ 5) (hv : VOk m) (g : List (Int × Giver)) (hg : g.length ≤ 5) :
    TR Tryz.prog K 42 [evPtr bn, .o (.int .i64 from_), .o (.int .i64 now), evMsg mg] [.blk bn 73 (nodeC bs bt bv bb bw nilS sw gv), diskO bs, tabO bt, viewO bv m, .map sw ekDig evPO [], .map gv ekInt evGiver g]
    fun v r => ∃ m' g' p n c, VOk m' ∧ m'.length ≤ 5 ∧ g'.length ≤ 5 ∧ v = .s (.o (.slice p n c)) ∧ r = [.blk bn 73 (nodeC bs bt bv bb bw nilS sw gv), diskO bs, tabO bt, viewO bv m', .map sw ekDig evPO [], .map gv ekInt evGiver g'] := by
  refine tr_intro Tryz.func42 rfl rfl rfl fun cx hro hk hret => ?_
  refine sx_seq ?_
  refine sx_region ?_
  refine sxo_box rfl rfl rfl rfl rfl rfl (fun _ => ?_)
  refine sxo_pure rfl rfl rfl trivial ?_
  refine sxo_end ?_
  refine sx_seq ?_
  refine sx_drawN 1 (by kernel_rfl) [0, 1, 2, 3, 4, 5, 6, 7, 8, 9, 10, 11] [] (by kernel_rfl) ?_
  refine sxo_pure rfl rfl rfl trivial ?_
  refine sxo_pure rfl rfl rfl trivial ?_
  refine sxo_pure rfl rfl rfl trivial ?_
  refine sxo_load rfl rfl rfl (by exact .tail .head) rfl rfl rfl rfl ?_
  refine sxo_pure rfl rfl rfl trivial ?_
  refine sxo_load rfl rfl rfl (by exact .head) rfl rfl rfl rfl ?_
  refine sxo_lookupDig (ev' := evPO) (z0 := (none : Option Nat)) rfl rfl rfl rfl (by exact .tail (.tail (.tail (.tail (.tail .head))))) rfl rfl rfl rfl rfl rfl rfl rfl rfl rfl rfl rfl ?_
  refine sxo_pure rfl rfl rfl trivial ?_
  refine sxo_pure rfl rfl rfl trivial ?_
  refine sxo_pure rfl rfl rfl trivial ?_
  refine sxo_pure rfl rfl rfl trivial ?_
  refine sxo_pure rfl rfl rfl trivial ?_
  refine sxo_end ?_
  refine sx_seq ?_
  refine sx_block ?_
  refine sx_seq ?_
  refine sx_region ?_
  refine sxo_pure rfl rfl rfl trivial ?_
  refine sxo_load rfl rfl rfl (by exact .head) rfl rfl rfl rfl ?_
  refine sxo_pure rfl rfl rfl trivial ?_
  refine sxo_pure rfl rfl rfl trivial ?_
  refine sxo_end ?_
  rename_i b7
  refine sx_cond rfl (fun h => ?_) (fun h => ?_)
  · refine sx_seq ?_
    refine sx_region ?_
    refine sxo_pure rfl rfl rfl trivial ?_
    refine sxo_load rfl rfl rfl (by exact .head) rfl rfl rfl rfl ?_
    refine sxo_lenV rfl rfl rfl rfl rfl rfl rfl ?_
    refine sxo_pure rfl rfl rfl trivial ?_
    refine sxo_end ?_
    refine sx_block ?_
    have hn : mg.mems.n = lm.length := hlm.len
    refine sx_less (by refine .cons rfl ?_; refine .cons rfl ?_; refine .cons rfl ?_; refine .cons rfl ?_; refine .cons rfl ?_; exact .nil _) (by (apply Take.cons; focus exact .tail .head); (apply Take.cons; focus exact .tail .head); (apply Take.cons; focus exact .tail .head); (apply Take.cons; focus exact .tail .head); (apply Take.cons; focus exact .tail .head); (apply Take.cons; focus exact .tail .head); exact .nil) (sx_loopI (γ := Nat × List (Int × Member)) (fun x => x.1 ≤ lm.length ∧ VOk x.2 ∧ x.2.length ≤ 5) (fun x => lm.length - x.1) (fun x => [(0, .s (evPtr bn)), (2, .s (.o (.int .i64 now))), (32, .s (.o (.slice mg.mems.p mg.mems.n mg.mems.c))), (33, .s (.o (.int .i64 mg.mems.n))), (34, .s (.o (.int .i64 x.1)))]) (fun x => [.blk bn 73 (nodeC bs bt bv bb bw nilS sw gv), diskO bs, tabO bt, viewO bv x.2, .map sw ekDig evPO [], .map gv ekInt evGiver g]) ((0, m)) (⟨by simp, hv, hm⟩) ?_)
    rintro ⟨j, m2⟩ ⟨hj, hv2, hm2⟩ ih
    simp only at hj hv2 hm2
    refine sx_seq ?_
    refine sx_region ?_
    refine sxo_pure rfl rfl rfl trivial ?_
    refine sxo_end ?_
    refine sx_seq ?_
    refine sx_cond rfl (fun h2 => ?_) (fun h2 => ?_)
    · simp at h2
      refine sx_skip ?_
      refine sx_seq ?_
      refine sx_block ?_
      refine sx_seq ?_
      refine sx_region ?_
      refine sxo_indexAddr rfl rfl rfl rfl rfl rfl rfl (Reads.beside hlm) (by simp only; omega) rfl (fun _ _ => ?_)
      refine sxo_loadEl0 rfl rfl rfl (by exact .head) (Reads.beside hlm) rfl (by simp only; omega) (fun _ => rfl) rfl rfl (fun x hx => ?_)
      refine sxo_alloc rfl rfl rfl rfl rfl rfl (fun _ => ?_)
      refine sxo_store rfl rfl rfl rfl (by exact .head) rfl rfl rfl rfl rfl ?_
      refine sxo_end ?_
      refine sx_drawN 6 (by kernel_rfl) [0, 1, 2, 3, 4, 5, 6] [] (by kernel_rfl) ?_
      refine sxo_pure rfl rfl rfl trivial ?_
      refine sxo_pure rfl rfl rfl trivial ?_
      refine sxo_pure rfl rfl rfl trivial ?_
      refine sxo_load rfl rfl rfl (by exact .tail (.tail .head)) rfl rfl rfl rfl ?_
      refine sxo_load rfl rfl rfl (by exact .head) rfl rfl rfl rfl ?_
      refine sxo_pure rfl rfl rfl trivial ?_
      refine sxo_call0 rfl rfl rfl rfl (by (apply Take.cons; focus exact .tail (.tail (.tail (.tail (.tail .head))))); exact .nil) (fun Kc hK hB => HearO Kc bv m2 hm2 hv2 x now) rfl rfl ?_ (hH := by rintro v m ⟨m3, hv3, hm3, rfl⟩; (exact hh_nil))
      rintro v m ⟨m3, hv3, hm3, rfl⟩
      simp only [List.cons_append, List.nil_append, List.append_nil, resV]
      refine sxo_end ?_
      refine sx_inBlock ?_
      refine sx_region ?_
      refine sxo_pure rfl rfl rfl (by omega) ?_
      refine sxo_pure rfl rfl rfl trivial ?_
      refine sxo_end ?_
      refine sx_less (by refine .cons rfl ?_; refine .cons rfl ?_; refine .cons rfl ?_; refine .cons rfl ?_; refine .cons rfl ?_; exact .nil _) (by (apply Take.cons; focus exact .tail (.tail (.tail .head))); (apply Take.cons; focus exact .tail (.tail (.tail .head))); (apply Take.cons; focus exact .tail (.tail (.tail .head))); (apply Take.cons; focus exact .head); (apply Take.cons; focus exact .tail (.tail .head)); (apply Take.cons; focus exact .tail (.tail .head)); exact .nil) (ih ((j + 1, m3)) (⟨by simp only; omega, hv3, hm3⟩) (by simp only; omega))
    · refine sx_exit rfl ?_
      refine sx_inBlock ?_
      refine sx_seq ?_
      refine sx_region ?_
      refine sxo_pure rfl rfl rfl trivial ?_
      refine sxo_end ?_
      refine sx_retL hret hro hk (.tmp rfl .nil) ⟨m2, g, _, _, _, hv2, hm2, hg, rfl, rfl⟩ (by (apply Take.cons; focus exact .head); (apply Take.cons; focus exact .head); (apply Take.cons; focus exact .head); (apply Take.cons; focus exact .head); (apply Take.cons; focus exact .head); (apply Take.cons; focus exact .head); exact .nil)
  · refine sx_seq ?_
    refine sx_region ?_
    refine sxo_pure rfl rfl rfl trivial ?_
    refine sxo_load rfl rfl rfl (by exact .head) rfl rfl rfl rfl ?_
    refine sxo_pure rfl rfl rfl trivial ?_
    refine sxo_pure rfl rfl rfl trivial ?_
    refine sxo_end ?_
    refine sx_cond rfl (fun h1 => ?_) (fun h1 => ?_)
    · refine sx_seq ?_
      refine sx_region ?_
      refine sxo_pure rfl rfl rfl trivial ?_
      refine sxo_pure rfl rfl rfl trivial ?_
      refine sxo_load rfl rfl rfl (by exact .head) rfl rfl rfl rfl ?_
      refine sxo_call0 rfl rfl rfl rfl (by (apply Take.cons; focus exact .tail .head); (apply Take.cons; focus exact .tail .head); (apply Take.cons; focus exact .tail .head); exact .nil) (fun Kc hK hB => nbits_ok Kc bn bs bt bv bb bw sw gv mg.hash) rfl rfl ?_ (hH := by rintro v m ⟨rfl, rfl⟩; (exact hh_nil))
      rintro v m ⟨rfl, rfl⟩
      simp only [List.cons_append, List.nil_append, List.append_nil, resV]
      refine sxo_pure rfl rfl rfl trivial ?_
      refine sxo_pure rfl rfl rfl trivial ?_
      refine sxo_pure rfl rfl rfl trivial ?_
      refine sxo_pure rfl rfl rfl trivial ?_
      refine sxo_pure rfl rfl rfl trivial ?_
      refine sxo_end ?_
      refine sx_seq ?_
      refine sx_region ?_
      refine sxo_pure rfl rfl rfl trivial ?_
      refine sxo_end ?_
      refine sx_condF rfl ?_
      refine sx_skip ?_
      refine sx_inBlock ?_
      refine sx_seq ?_
      refine sx_region ?_
      refine sxo_pure rfl rfl rfl trivial ?_
      refine sxo_end ?_
      refine sx_retL hret hro hk (.tmp rfl .nil) ⟨m, g, _, _, _, hv, hm, hg, rfl, rfl⟩ (by (apply Take.cons; focus exact .head); (apply Take.cons; focus exact .head); (apply Take.cons; focus exact .head); (apply Take.cons; focus exact .tail .head); (apply Take.cons; focus exact .tail .head); (apply Take.cons; focus exact .tail .head); exact .nil)
    · refine sx_seq ?_
      refine sx_region ?_
      refine sxo_pure rfl rfl rfl trivial ?_
      refine sxo_load rfl rfl rfl (by exact .head) rfl rfl rfl rfl ?_
      refine sxo_pure rfl rfl rfl trivial ?_
      refine sxo_pure rfl rfl rfl trivial ?_
      refine sxo_end ?_
      refine sx_cond rfl (fun h2 => ?_) (fun h2 => ?_)
      · refine sx_seq ?_
        refine sx_region ?_
        refine sxo_pure rfl rfl rfl trivial ?_
        refine sxo_pure rfl rfl rfl trivial ?_
        refine sxo_call0 rfl rfl rfl rfl (by (apply Take.cons; focus exact .tail .head); (apply Take.cons; focus exact .tail (.tail (.tail (.tail (.tail .head))))); exact .nil) (fun Kc hK hB => note_ok Kc bn bs bt bv bb bw sw gv g hg from_) rfl rfl ?_ (hH := by rintro v m ⟨g', hg', rfl⟩; (exact hh_nil))
        rintro v m ⟨g', hg', rfl⟩
        simp only [List.cons_append, List.nil_append, List.append_nil, resV]
        refine sxo_end ?_
        refine sx_seq ?_
        refine sx_region ?_
        refine sxo_pure rfl rfl rfl trivial ?_
        refine sxo_pure rfl rfl rfl trivial ?_
        refine sxo_pure rfl rfl rfl trivial ?_
        refine sxo_load rfl rfl rfl (by exact .tail (.tail .head)) rfl rfl rfl rfl ?_
        refine sxo_call0 rfl rfl rfl rfl (by (apply Take.cons; focus exact .head); (apply Take.cons; focus exact .tail (.tail .head)); (apply Take.cons; focus exact .tail (.tail .head)); exact .nil) (fun Kc hK hB => give_ok Kc bn bs bt bv bb bw sw gv from_ mg) rfl rfl ?_ (hH := by rintro v m ⟨⟨m', rfl⟩, rfl⟩; (exact hh_nil))
        rintro v m ⟨⟨m', rfl⟩, rfl⟩
        simp only [List.cons_append, List.nil_append, List.append_nil, resV]
        refine sxo_build rfl rfl rfl rfl rfl rfl rfl rfl rfl ?_
        refine sxo_buildSlice rfl rfl rfl rfl rfl rfl rfl rfl rfl rfl rfl rfl rfl (fun _ => ?_)
        refine sxo_pure rfl rfl rfl trivial ?_
        refine sxo_end ?_
        refine sx_retL hret hro hk (.tmp rfl .nil) ⟨m, g', _, _, _, hv, hm, hg', rfl, rfl⟩ (by (apply Take.cons; focus exact .tail .head); (apply Take.cons; focus exact .tail .head); (apply Take.cons; focus exact .tail .head); (apply Take.cons; focus exact .tail (.tail (.tail .head))); (apply Take.cons; focus exact .tail (.tail (.tail .head))); (apply Take.cons; focus exact .tail .head); exact .nil)
      · refine sx_seq ?_
        refine sx_region ?_
        refine sxo_pure rfl rfl rfl trivial ?_
        refine sxo_load rfl rfl rfl (by exact .head) rfl rfl rfl rfl ?_
        refine sxo_pure rfl rfl rfl trivial ?_
        refine sxo_pure rfl rfl rfl trivial ?_
        refine sxo_split (t := 84) rfl (fun h3 => ?_) (fun h3 => ?_)
        · refine sxo_pure rfl rfl rfl trivial ?_
          refine sxo_pure rfl rfl rfl trivial ?_
          refine sxo_pure rfl rfl rfl trivial ?_
          refine sxo_end ?_
          refine sx_condF rfl ?_
          refine sx_seq ?_
          refine sx_region ?_
          refine sxo_pure rfl rfl rfl trivial ?_
          refine sxo_load rfl rfl rfl (by exact .head) rfl rfl rfl rfl ?_
          refine sxo_pure rfl rfl rfl trivial ?_
          refine sxo_pure rfl rfl rfl trivial ?_
          refine sxo_split (t := 99) rfl (fun h4 => ?_) (fun h4 => ?_)
          · refine sxo_pure rfl rfl rfl trivial ?_
            refine sxo_pure rfl rfl rfl trivial ?_
            refine sxo_pure rfl rfl rfl trivial ?_
            refine sxo_end ?_
            refine sx_condF rfl ?_
            refine sx_skip ?_
            refine sx_inBlock ?_
            refine sx_seq ?_
            refine sx_region ?_
            refine sxo_pure rfl rfl rfl trivial ?_
            refine sxo_end ?_
            refine sx_retL hret hro hk (.tmp rfl .nil) ⟨m, g, _, _, _, hv, hm, hg, rfl, rfl⟩ (by (apply Take.cons; focus exact .tail .head); (apply Take.cons; focus exact .tail .head); (apply Take.cons; focus exact .tail .head); (apply Take.cons; focus exact .tail .head); (apply Take.cons; focus exact .tail .head); (apply Take.cons; focus exact .tail .head); exact .nil)
          · refine sxo_pass rfl rfl rfl ?_
            refine sxo_pure rfl rfl rfl trivial ?_
            refine sxo_pure rfl rfl rfl trivial ?_
            refine sxo_end ?_
            refine sx_condF rfl ?_
            refine sx_skip ?_
            refine sx_inBlock ?_
            refine sx_seq ?_
            refine sx_region ?_
            refine sxo_pure rfl rfl rfl trivial ?_
            refine sxo_end ?_
            refine sx_retL hret hro hk (.tmp rfl .nil) ⟨m, g, _, _, _, hv, hm, hg, rfl, rfl⟩ (by (apply Take.cons; focus exact .tail .head); (apply Take.cons; focus exact .tail .head); (apply Take.cons; focus exact .tail .head); (apply Take.cons; focus exact .tail .head); (apply Take.cons; focus exact .tail .head); (apply Take.cons; focus exact .tail .head); exact .nil)
        · refine sxo_pass rfl rfl rfl ?_
          refine sxo_pure rfl rfl rfl trivial ?_
          refine sxo_pure rfl rfl rfl trivial ?_
          refine sxo_end ?_
          refine sx_condF rfl ?_
          refine sx_seq ?_
          refine sx_region ?_
          refine sxo_pure rfl rfl rfl trivial ?_
          refine sxo_load rfl rfl rfl (by exact .head) rfl rfl rfl rfl ?_
          refine sxo_pure rfl rfl rfl trivial ?_
          refine sxo_pure rfl rfl rfl trivial ?_
          refine sxo_split (t := 99) rfl (fun h4 => ?_) (fun h4 => ?_)
          · refine sxo_pure rfl rfl rfl trivial ?_
            refine sxo_pure rfl rfl rfl trivial ?_
            refine sxo_pure rfl rfl rfl trivial ?_
            refine sxo_end ?_
            refine sx_condF rfl ?_
            refine sx_skip ?_
            refine sx_inBlock ?_
            refine sx_seq ?_
            refine sx_region ?_
            refine sxo_pure rfl rfl rfl trivial ?_
            refine sxo_end ?_
            refine sx_retL hret hro hk (.tmp rfl .nil) ⟨m, g, _, _, _, hv, hm, hg, rfl, rfl⟩ (by (apply Take.cons; focus exact .tail .head); (apply Take.cons; focus exact .tail .head); (apply Take.cons; focus exact .tail .head); (apply Take.cons; focus exact .tail .head); (apply Take.cons; focus exact .tail .head); (apply Take.cons; focus exact .tail .head); exact .nil)
          · refine sxo_pass rfl rfl rfl ?_
            refine sxo_pure rfl rfl rfl trivial ?_
            refine sxo_pure rfl rfl rfl trivial ?_
            refine sxo_end ?_
            refine sx_condF rfl ?_
            refine sx_skip ?_
            refine sx_inBlock ?_
            refine sx_seq ?_
            refine sx_region ?_
            refine sxo_pure rfl rfl rfl trivial ?_
            refine sxo_end ?_
            refine sx_retL hret hro hk (.tmp rfl .nil) ⟨m, g, _, _, _, hv, hm, hg, rfl, rfl⟩ (by (apply Take.cons; focus exact .tail .head); (apply Take.cons; focus exact .tail .head); (apply Take.cons; focus exact .tail .head); (apply Take.cons; focus exact .tail .head); (apply Take.cons; focus exact .tail .head); (apply Take.cons; focus exact .tail .head); exact .nil)
end
end Go.SX

namespace Go.SX
open Go.Proofs
attribute [local irreducible] SX SXo
set_option maxRecDepth 20000
set_option maxHeartbeats 4000000
section
variable (K : Hp) (bn bs bt bv bb bw : Nat) (sw gv : Nat)
theorem TakeQ_ok (from_ now : Int) (mg : Msg) (li : List Int) (lm : List Member) (hli : VecRd mg.ids 3 1 encI li K) (hlm : VecRd mg.mems 101 4 encM lm K) (hil : li.length < 4611686018427387904) (hml : lm.length < 4611686018427387904) (m : List (Int × Member)) (hm : m.length ≤ 5) (hv : VOk m) (g : List (Int × Giver)) (hg : g.length ≤ 5) :
    TR Tryz.prog K 11 [evPtr bn, .o (.int .i64 from_), .o (.int .i64 now), evMsg mg] [.blk bn 73 (nodeC bs bt bv bb bw nilS sw gv), bookO bb, diskO bs, tabO bt, viewO bv m, .map sw ekDig evPO [], .map gv ekInt evGiver g]
    fun v r => ∃ m' g' p n c e, VOk m' ∧ m'.length ≤ 5 ∧ g'.length ≤ 5 ∧ v = .t [.o (.slice p n c), .o (.int .i64 e)] ∧ r = [.blk bn 73 (nodeC bs bt bv bb bw nilS sw gv), bookO bb, diskO bs, tabO bt, viewO bv m', .map sw ekDig evPO [], .map gv ekInt evGiver g'] := by
  refine tr_intro Tryz.func11 rfl rfl rfl fun cx hro hk hret => ?_
  refine sx_seq ?_
  refine sx_region ?_
  refine sxo_box rfl rfl rfl rfl rfl rfl (fun _ => ?_)
  refine sxo_pure rfl rfl rfl trivial ?_
  refine sxo_pure rfl rfl rfl trivial ?_
  refine sxo_end ?_
  refine sx_seq ?_
  refine sx_block ?_
  refine sx_seq ?_
  refine sx_region ?_
  refine sxo_pure rfl rfl rfl trivial ?_
  refine sxo_pure rfl rfl rfl trivial ?_
  refine sxo_pure rfl rfl rfl trivial ?_
  refine sxo_load rfl rfl rfl (by exact .tail .head) rfl rfl rfl rfl ?_
  refine sxo_pure rfl rfl rfl trivial ?_
  refine sxo_end ?_
  refine sx_condF rfl ?_
  refine sx_seq ?_
  refine sx_region ?_
  refine sxo_pure rfl rfl rfl trivial ?_
  refine sxo_call0 rfl rfl rfl rfl (by exact .nil) (fun Kc hK hB => nodeWithin_ok Kc from_ 0 65536) rfl rfl ?_ (hH := by rintro v m ⟨rfl, rfl⟩; (exact hh_nil))
  rintro v m ⟨rfl, rfl⟩
  simp only [List.cons_append, List.nil_append, List.append_nil, resV]
  refine sxo_pure rfl rfl rfl trivial ?_
  refine sxo_pure rfl rfl rfl trivial ?_
  refine sxo_split (t := 21) rfl (fun h1 => ?_) (fun h1 => ?_)
  · refine sxo_pass rfl rfl rfl ?_
    refine sxo_pass rfl rfl rfl ?_
    refine sxo_pass rfl rfl rfl ?_
    refine sxo_pass rfl rfl rfl ?_
    refine sxo_pass rfl rfl rfl ?_
    refine sxo_pass rfl rfl rfl ?_
    refine sxo_pure rfl rfl rfl trivial ?_
    refine sxo_pure rfl rfl rfl trivial ?_
    refine sxo_pass rfl rfl rfl ?_
    refine sxo_pass rfl rfl rfl ?_
    refine sxo_pass rfl rfl rfl ?_
    refine sxo_pure rfl rfl rfl trivial ?_
    refine sxo_pure rfl rfl rfl trivial ?_
    refine sxo_pass rfl rfl rfl ?_
    refine sxo_pass rfl rfl rfl ?_
    refine sxo_pass rfl rfl rfl ?_
    refine sxo_pure rfl rfl rfl trivial ?_
    refine sxo_pure rfl rfl rfl trivial ?_
    refine sxo_end ?_
    refine sx_condT rfl ?_
    refine sx_seq ?_
    refine sx_region ?_
    refine sxo_pure rfl rfl rfl trivial ?_
    refine sxo_pure rfl rfl rfl trivial ?_
    refine sxo_end ?_
    refine sx_retL hret hro hk (.tmp rfl (.tmp rfl .nil)) ⟨m, g, _, _, _, _, hv, hm, hg, rfl, rfl⟩ (by (apply Take.cons; focus exact .tail .head); (apply Take.cons; focus exact .tail .head); (apply Take.cons; focus exact .tail .head); (apply Take.cons; focus exact .tail .head); (apply Take.cons; focus exact .tail .head); (apply Take.cons; focus exact .tail .head); (apply Take.cons; focus exact .tail .head); exact .nil)
  refine sxo_pure rfl rfl rfl trivial ?_
  refine sxo_pure rfl rfl rfl trivial ?_
  refine sxo_pure rfl rfl rfl trivial ?_
  refine sxo_pure rfl rfl rfl trivial ?_
  refine sxo_load rfl rfl rfl (by exact .tail .head) rfl rfl rfl rfl ?_
  refine sxo_pure rfl rfl rfl trivial ?_
  refine sxo_pure rfl rfl rfl trivial ?_
  refine sxo_pure rfl rfl rfl trivial ?_
  refine sxo_split (t := 29) rfl (fun h2 => ?_) (fun h2 => ?_)
  · refine sxo_pass rfl rfl rfl ?_
    refine sxo_pass rfl rfl rfl ?_
    refine sxo_pass rfl rfl rfl ?_
    refine sxo_pure rfl rfl rfl trivial ?_
    refine sxo_pure rfl rfl rfl trivial ?_
    refine sxo_pass rfl rfl rfl ?_
    refine sxo_pass rfl rfl rfl ?_
    refine sxo_pass rfl rfl rfl ?_
    refine sxo_pure rfl rfl rfl trivial ?_
    refine sxo_pure rfl rfl rfl trivial ?_
    refine sxo_end ?_
    refine sx_condT rfl ?_
    refine sx_seq ?_
    refine sx_region ?_
    refine sxo_pure rfl rfl rfl trivial ?_
    refine sxo_pure rfl rfl rfl trivial ?_
    refine sxo_end ?_
    refine sx_retL hret hro hk (.tmp rfl (.tmp rfl .nil)) ⟨m, g, _, _, _, _, hv, hm, hg, rfl, rfl⟩ (by (apply Take.cons; focus exact .tail .head); (apply Take.cons; focus exact .tail .head); (apply Take.cons; focus exact .tail .head); (apply Take.cons; focus exact .tail .head); (apply Take.cons; focus exact .tail .head); (apply Take.cons; focus exact .tail .head); (apply Take.cons; focus exact .tail .head); exact .nil)
  refine sxo_pure rfl rfl rfl trivial ?_
  refine sxo_call0 rfl rfl rfl rfl (by exact .nil) (fun Kc hK hB => nodeWithin_ok Kc now 0 1099511627776) rfl rfl ?_ (hH := by rintro v m ⟨rfl, rfl⟩; (exact hh_nil))
  rintro v m ⟨rfl, rfl⟩
  simp only [List.cons_append, List.nil_append, List.append_nil, resV]
  refine sxo_pure rfl rfl rfl trivial ?_
  refine sxo_pure rfl rfl rfl trivial ?_
  refine sxo_pure rfl rfl rfl trivial ?_
  refine sxo_split (t := 34) rfl (fun h3 => ?_) (fun h3 => ?_)
  · refine sxo_pass rfl rfl rfl ?_
    refine sxo_pass rfl rfl rfl ?_
    refine sxo_pass rfl rfl rfl ?_
    refine sxo_pure rfl rfl rfl trivial ?_
    refine sxo_pure rfl rfl rfl trivial ?_
    refine sxo_end ?_
    refine sx_condT rfl ?_
    refine sx_seq ?_
    refine sx_region ?_
    refine sxo_pure rfl rfl rfl trivial ?_
    refine sxo_pure rfl rfl rfl trivial ?_
    refine sxo_end ?_
    refine sx_retL hret hro hk (.tmp rfl (.tmp rfl .nil)) ⟨m, g, _, _, _, _, hv, hm, hg, rfl, rfl⟩ (by (apply Take.cons; focus exact .tail .head); (apply Take.cons; focus exact .tail .head); (apply Take.cons; focus exact .tail .head); (apply Take.cons; focus exact .tail .head); (apply Take.cons; focus exact .tail .head); (apply Take.cons; focus exact .tail .head); (apply Take.cons; focus exact .tail .head); exact .nil)
  refine sxo_load rfl rfl rfl (by exact .head) rfl rfl rfl rfl ?_
  refine sxo_call0 rfl rfl rfl rfl (by exact .nil) (fun Kc hK hB => Right_ok Kc mg li lm (hli.mono hK) (hlm.mono hK) hil hml) rfl rfl ?_ (hH := by rintro v m ⟨⟨rt, rfl⟩, rfl⟩; (exact hh_nil))
  rintro v m ⟨⟨rt, rfl⟩, rfl⟩
  simp only [List.cons_append, List.nil_append, List.append_nil, resV]
  refine sxo_pure rfl rfl rfl trivial ?_
  refine sxo_pure rfl rfl rfl trivial ?_
  refine sxo_pure rfl rfl rfl trivial ?_
  refine sxo_end ?_
  refine sx_cond rfl (fun h4 => ?_) (fun h4 => ?_)
  · refine sx_seq ?_
    refine sx_region ?_
    refine sxo_pure rfl rfl rfl trivial ?_
    refine sxo_pure rfl rfl rfl trivial ?_
    refine sxo_end ?_
    refine sx_retL hret hro hk (.tmp rfl (.tmp rfl .nil)) ⟨m, g, _, _, _, _, hv, hm, hg, rfl, rfl⟩ (by (apply Take.cons; focus exact .tail .head); (apply Take.cons; focus exact .tail .head); (apply Take.cons; focus exact .tail .head); (apply Take.cons; focus exact .tail .head); (apply Take.cons; focus exact .tail .head); (apply Take.cons; focus exact .tail .head); (apply Take.cons; focus exact .tail .head); exact .nil)
  refine sx_seq ?_
  refine sx_region ?_
  refine sxo_pure rfl rfl rfl trivial ?_
  refine sxo_pure rfl rfl rfl trivial ?_
  refine sxo_pure rfl rfl rfl trivial ?_
  refine sxo_load rfl rfl rfl (by exact .tail .head) rfl rfl rfl rfl ?_
  refine sxo_pure rfl rfl rfl trivial ?_
  refine sxo_pure rfl rfl rfl trivial ?_
  refine sxo_call0 rfl rfl rfl rfl (by (apply Take.cons; focus exact .tail (.tail .head)); exact .nil) (fun Kc hK hB => BannedO Kc bb from_ now) rfl rfl ?_ (hH := by rintro v m ⟨rfl, rfl⟩; (exact hh_nil))
  rintro v m ⟨rfl, rfl⟩
  simp only [List.cons_append, List.nil_append, List.append_nil, resV]
  refine sxo_pure rfl rfl rfl trivial ?_
  refine sxo_end ?_
  refine sx_condF rfl ?_
  refine sx_skip ?_
  refine sx_inBlock ?_
  refine sx_seq ?_
  refine sx_block ?_
  refine sx_seq ?_
  refine sx_region ?_
  refine sxo_pure rfl rfl rfl trivial ?_
  refine sxo_load rfl rfl rfl (by exact .tail .head) rfl rfl rfl rfl ?_
  refine sxo_pure rfl rfl rfl trivial ?_
  refine sxo_pure rfl rfl rfl trivial ?_
  refine sxo_end ?_
  refine sx_cond rfl (fun h5 => ?_) (fun h5 => ?_)
  · refine sx_seq ?_
    refine sx_region ?_
    refine sxo_pure rfl rfl rfl trivial ?_
    refine sxo_pure rfl rfl rfl trivial ?_
    refine sxo_pure rfl rfl rfl trivial ?_
    refine sxo_load rfl rfl rfl (by exact .tail .head) rfl rfl rfl rfl ?_
    refine sxo_call0 rfl rfl rfl rfl (by (apply Take.cons; focus exact .tail (.tail .head)); (apply Take.cons; focus exact .tail (.tail (.tail (.tail (.tail .head))))); exact .nil) (fun Kc hK hB => given_ok Kc bn bs bt bv bb bw sw gv from_ now mg) rfl rfl ?_ (hH := by rintro v m ⟨rfl, rfl⟩; (exact hh_nil))
    rintro v m ⟨rfl, rfl⟩
    simp only [List.cons_append, List.nil_append, List.append_nil, resV]
    refine sxo_pure rfl rfl rfl trivial ?_
    refine sxo_pure rfl rfl rfl trivial ?_
    refine sxo_pure rfl rfl rfl trivial ?_
    refine sxo_pure rfl rfl rfl trivial ?_
    refine sxo_end ?_
    refine sx_retL hret hro hk (.tmp rfl (.tmp rfl .nil)) ⟨m, g, _, _, _, _, hv, hm, hg, rfl, rfl⟩ (by (apply Take.cons; focus exact .head); (apply Take.cons; focus exact .tail .head); (apply Take.cons; focus exact .tail (.tail .head)); (apply Take.cons; focus exact .tail (.tail .head)); (apply Take.cons; focus exact .tail (.tail .head)); (apply Take.cons; focus exact .head); (apply Take.cons; focus exact .tail .head); exact .nil)
  refine sx_seq ?_
  refine sx_region ?_
  refine sxo_pure rfl rfl rfl trivial ?_
  refine sxo_load rfl rfl rfl (by exact .tail .head) rfl rfl rfl rfl ?_
  refine sxo_pure rfl rfl rfl trivial ?_
  refine sxo_pure rfl rfl rfl trivial ?_
  refine sxo_end ?_
  refine sx_cond rfl (fun h6 => ?_) (fun h6 => ?_)
  · refine sx_seq ?_
    refine sx_seq ?_
    refine sx_drawN 10 (by kernel_rfl) [0, 1, 2, 3, 4, 5, 6, 7, 8, 9, 10, 11] [] (by kernel_rfl) ?_
    refine sxo_pure rfl rfl rfl trivial ?_
    refine sxo_pure rfl rfl rfl trivial ?_
    refine sxo_pure rfl rfl rfl trivial ?_
    refine sxo_load rfl rfl rfl (by exact .tail (.tail .head)) rfl rfl rfl rfl ?_
    refine sxo_pure rfl rfl rfl trivial ?_
    refine sxo_load rfl rfl rfl (by exact .tail .head) rfl rfl rfl rfl ?_
    refine sxo_lookupDig (ev' := evPO) (z0 := (none : Option Nat)) rfl rfl rfl rfl (by exact .tail (.tail (.tail (.tail (.tail (.tail .head)))))) rfl rfl rfl rfl rfl rfl rfl rfl rfl rfl rfl rfl ?_
    refine sxo_pure rfl rfl rfl trivial ?_
    refine sxo_pure rfl rfl rfl trivial ?_
    refine sxo_pure rfl rfl rfl trivial ?_
    refine sxo_pure rfl rfl rfl trivial ?_
    refine sxo_pure rfl rfl rfl trivial ?_
    refine sxo_end ?_
    refine sx_seq ?_
    refine sx_region ?_
    refine sxo_pure rfl rfl rfl trivial ?_
    refine sxo_end ?_
    refine sx_condF rfl ?_
    refine sx_skip ?_
    refine sx_seq ?_
    refine sx_region ?_
    refine sxo_pure rfl rfl rfl trivial ?_
    refine sxo_pure rfl rfl rfl trivial ?_
    refine sxo_end ?_
    refine sx_retL hret hro hk (.tmp rfl (.tmp rfl .nil)) ⟨m, g, _, _, _, _, hv, hm, hg, rfl, rfl⟩ (by (apply Take.cons; focus exact .tail (.tail .head)); (apply Take.cons; focus exact .head); (apply Take.cons; focus exact .tail .head); (apply Take.cons; focus exact .tail .head); (apply Take.cons; focus exact .tail .head); (apply Take.cons; focus exact .tail .head); (apply Take.cons; focus exact .tail .head); exact .nil)
  refine sx_seq ?_
  refine sx_region ?_
  refine sxo_pure rfl rfl rfl trivial ?_
  refine sxo_pure rfl rfl rfl trivial ?_
  refine sxo_pure rfl rfl rfl trivial ?_
  refine sxo_end ?_
  refine sx_cond rfl (fun h7 => ?_) (fun h7 => ?_)
  · refine sx_seq ?_
    refine sx_region ?_
    refine sxo_pure rfl rfl rfl trivial ?_
    refine sxo_pure rfl rfl rfl trivial ?_
    refine sxo_load rfl rfl rfl (by exact .tail .head) rfl rfl rfl rfl ?_
    refine sxo_call0 rfl rfl rfl rfl (by (apply Take.cons; focus exact .tail (.tail .head)); (apply Take.cons; focus exact .tail (.tail (.tail (.tail (.tail .head))))); exact .nil) (fun Kc hK hB => ofOrigin_ok Kc bn bs bt bv bb bw sw gv now mg) rfl rfl ?_ (hH := by rintro v m ⟨rfl, rfl⟩; (exact hh_nil))
    rintro v m ⟨rfl, rfl⟩
    simp only [List.cons_append, List.nil_append, List.append_nil, resV]
    refine sxo_pure rfl rfl rfl trivial ?_
    refine sxo_pure rfl rfl rfl trivial ?_
    refine sxo_end ?_
    refine sx_retL hret hro hk (.tmp rfl (.tmp rfl .nil)) ⟨m, g, _, _, _, _, hv, hm, hg, rfl, rfl⟩ (by (apply Take.cons; focus exact .head); (apply Take.cons; focus exact .tail .head); (apply Take.cons; focus exact .tail (.tail .head)); (apply Take.cons; focus exact .tail (.tail .head)); (apply Take.cons; focus exact .tail (.tail .head)); (apply Take.cons; focus exact .head); (apply Take.cons; focus exact .tail .head); exact .nil)
  refine sx_skip ?_
  refine sx_inBlock ?_
  refine sx_seq ?_
  refine sx_region ?_
  refine sxo_pure rfl rfl rfl trivial ?_
  refine sxo_pure rfl rfl rfl trivial ?_
  refine sxo_pure rfl rfl rfl trivial ?_
  refine sxo_load rfl rfl rfl (by exact .tail .head) rfl rfl rfl rfl ?_
  refine sxo_call0 rfl rfl rfl rfl (by (apply Take.cons; focus exact .tail (.tail .head)); (apply Take.cons; focus exact .tail (.tail .head)); (apply Take.cons; focus exact .tail (.tail .head)); (apply Take.cons; focus exact .tail (.tail .head)); (apply Take.cons; focus exact .tail (.tail .head)); (apply Take.cons; focus exact .tail (.tail .head)); exact .nil) (fun Kc hK hB => ofPeer_ok Kc bn bs bt bv bb bw sw gv from_ now mg lm (hlm.mono hK) hml m hm hv g hg) rfl rfl ?_ (hH := by rintro v m ⟨m', g', p, n, c, hv', hm', hg', rfl, rfl⟩; (exact hh_nil))
  rintro v m ⟨m', g', p, n, c, hv', hm', hg', rfl, rfl⟩
  simp only [List.cons_append, List.nil_append, List.append_nil, resV]
  refine sxo_pure rfl rfl rfl trivial ?_
  refine sxo_pure rfl rfl rfl trivial ?_
  refine sxo_end ?_
  refine sx_retL hret hro hk (.tmp rfl (.tmp rfl .nil)) ⟨m', g', _, _, _, _, hv', hm', hg', rfl, rfl⟩ (by (apply Take.cons; focus exact .head); (apply Take.cons; focus exact .tail (.tail (.tail (.tail (.tail .head))))); (apply Take.cons; focus exact .head); (apply Take.cons; focus exact .head); (apply Take.cons; focus exact .head); (apply Take.cons; focus exact .head); (apply Take.cons; focus exact .head); exact .nil)
theorem Images_q : TR Tryz.prog K 12 [evPtr bn] [.blk bn 73 (nodeC bs bt bv bb bw nilS sw gv), diskO bs]
    fun v r => v = .s (.o (.slice none 0 0)) ∧ r = [.blk bn 73 (nodeC bs bt bv bb bw nilS sw gv), diskO bs] := by
  refine tr_intro Tryz.func12 rfl rfl rfl fun cx hro hk hret => ?_
  refine sx_seq ?_
  refine sx_region ?_
  refine sxo_pure rfl rfl rfl trivial ?_
  refine sxo_end ?_
  refine sx_seq ?_
  refine sx_region ?_
  refine sxo_pure rfl rfl rfl trivial ?_
  refine sxo_pure rfl rfl rfl trivial ?_
  refine sxo_pure rfl rfl rfl trivial ?_
  refine sxo_load rfl rfl rfl (by exact .head) rfl rfl rfl rfl ?_
  refine sxo_call0 rfl rfl rfl rfl (by (apply Take.cons; focus exact .tail .head); exact .nil) (fun Kc hK hB => ImagesO Kc bs) rfl rfl ?_ (hH := by rintro v m ⟨rfl, rfl⟩; (exact hh_nil))
  rintro v m ⟨rfl, rfl⟩
  simp only [List.cons_append, List.nil_append, List.append_nil, resV]
  refine sxo_pure rfl rfl rfl trivial ?_
  refine sxo_end ?_
  refine sx_retL hret hro hk (.tmp rfl .nil) ⟨rfl, rfl⟩ (by (apply Take.cons; focus exact .tail .head); (apply Take.cons; focus exact .head); exact .nil)
theorem Taken_q : TR Tryz.prog K 13 [evPtr bn] [.blk bn 73 (nodeC bs bt bv bb bw nilS sw gv), tabO bt]
    fun v r => v = .s (.o (.slice none 0 0)) ∧ r = [.blk bn 73 (nodeC bs bt bv bb bw nilS sw gv), tabO bt] := by
  refine tr_intro Tryz.func13 rfl rfl rfl fun cx hro hk hret => ?_
  refine sx_seq ?_
  refine sx_region ?_
  refine sxo_pure rfl rfl rfl trivial ?_
  refine sxo_end ?_
  refine sx_seq ?_
  refine sx_region ?_
  refine sxo_pure rfl rfl rfl trivial ?_
  refine sxo_pure rfl rfl rfl trivial ?_
  refine sxo_pure rfl rfl rfl trivial ?_
  refine sxo_load rfl rfl rfl (by exact .head) rfl rfl rfl rfl ?_
  refine sxo_call0 rfl rfl rfl rfl (by (apply Take.cons; focus exact .tail .head); exact .nil) (fun Kc hK hB => BlobsO Kc bt) rfl rfl ?_ (hH := by rintro v m ⟨rfl, rfl⟩; (exact hh_nil))
  rintro v m ⟨rfl, rfl⟩
  simp only [List.cons_append, List.nil_append, List.append_nil, resV]
  refine sxo_pure rfl rfl rfl trivial ?_
  refine sxo_end ?_
  refine sx_retL hret hro hk (.tmp rfl .nil) ⟨rfl, rfl⟩ (by (apply Take.cons; focus exact .tail .head); (apply Take.cons; focus exact .head); exact .nil)
theorem Broken_q : TR Tryz.prog K 14 [evPtr bn] [.blk bn 73 (nodeC bs bt bv bb bw nilS sw gv)]
    fun v r => v = .s (.o (.bool false)) ∧ r = [.blk bn 73 (nodeC bs bt bv bb bw nilS sw gv)] := by
  refine tr_intro Tryz.func14 rfl rfl rfl fun cx hro hk hret => ?_
  refine sx_seq ?_
  refine sx_region ?_
  refine sxo_pure rfl rfl rfl trivial ?_
  refine sxo_end ?_
  refine sx_seq ?_
  refine sx_region ?_
  refine sxo_pure rfl rfl rfl trivial ?_
  refine sxo_pure rfl rfl rfl trivial ?_
  refine sxo_pure rfl rfl rfl trivial ?_
  refine sxo_load rfl rfl rfl (by exact .head) rfl rfl rfl rfl ?_
  refine sxo_pure rfl rfl rfl trivial ?_
  refine sxo_end ?_
  refine sx_retL hret hro hk (.tmp rfl .nil) ⟨rfl, rfl⟩ (by (apply Take.cons; focus exact .head); exact .nil)
theorem Members_q (m : List (Int × Member)) (hm : m.length ≤ 5) : TR Tryz.prog K 10 [evPtr bn] [.blk bn 73 (nodeC bs bt bv bb bw nilS sw gv), viewO bv m]
    fun v r => ∃ p n c, ∃ l : List Member, l.length = m.length ∧ v = .s (.o (.slice p n c)) ∧ r = [.blk bn 73 (nodeC bs bt bv bb bw nilS sw gv), viewO bv m, .vec ⟨p, n, c⟩ 101 4 encM l] := by
  refine tr_intro Tryz.func10 rfl rfl rfl fun cx hro hk hret => ?_
  refine sx_seq ?_
  refine sx_region ?_
  refine sxo_pure rfl rfl rfl trivial ?_
  refine sxo_end ?_
  refine sx_seq ?_
  refine sx_region ?_
  refine sxo_pure rfl rfl rfl trivial ?_
  refine sxo_pure rfl rfl rfl trivial ?_
  refine sxo_pure rfl rfl rfl trivial ?_
  refine sxo_load rfl rfl rfl (by exact .head) rfl rfl rfl rfl ?_
  refine sxo_call0 rfl rfl rfl rfl (by (apply Take.cons; focus exact .tail .head); exact .nil) (fun Kc hK hB => AllO Kc bv m (by omega)) rfl rfl ?_ (hH := by rintro v m ⟨p, n, c, l, hl, rfl, rfl⟩; (exact hh_nil))
  rintro v m ⟨p, n, c, l, hl, rfl, rfl⟩
  simp only [List.cons_append, List.nil_append, List.append_nil, resV]
  refine sxo_pure rfl rfl rfl trivial ?_
  refine sxo_end ?_
  refine sx_retL hret hro hk (.tmp rfl .nil) ⟨p, n, c, l, hl, rfl, rfl⟩ (by (apply Take.cons; focus exact .tail (.tail .head)); (apply Take.cons; focus exact .head); (apply Take.cons; focus exact .head); exact .nil)
end
end Go.SX
