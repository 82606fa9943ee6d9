/-
  node: the pull of an image by a fresh node, and its first moment.
  The law's own: set, awake, much.
  The law: a quiet node, walked.
  What a value that is handed in reads as, told in the words of the walk.
-/
import Derived.Test.YtbeokgkcndcahaaGreatDoorQ22
import Derived.KernelRfl
import Derived.Test.YtbeokgkcndcahaaGreatDoorQ13
import Derived.ChangeArms
import Derived.OpenShut
set_option linter.all false
namespace Go.SX
open Go.Proofs
attribute [local irreducible] SX SXo
set_option maxRecDepth 20000
set_option maxHeartbeats 4000000
section
variable (K : Hp) (bn bs bt bv bb bw : Nat) (sw gv : Nat)
@[reducible] def pullCh (D : Dig) (asked : Int) : List Ch := [.d D, .c (.pointer none), .c (.int .i64 asked), .c (.int .i64 0)]
@[reducible] def askM (kind : Int) (D : Dig) : Msg := ⟨kind, D, 0, nilS, nilS, nilS, nilS, false⟩
theorem message_ok (kind : Int) (D : Dig) : TR Tryz.prog K 73 [.o (.int .i64 kind), .g [.d D]] [] fun v r => v = .s (evMsg (askM kind D)) ∧ r = [] := by
  refine tr_intro Tryz.func73 rfl rfl rfl fun cx hro hk hret => ?_
  refine sx_seq ?_
  refine sx_region ?_
  refine sxo_box rfl rfl rfl rfl rfl rfl (fun _ => ?_)
  refine sxo_alloc rfl rfl rfl rfl rfl rfl (fun _ => ?_)
  refine sxo_end ?_
  refine sx_seq ?_
  refine sx_region ?_
  refine sxo_pure rfl rfl rfl trivial ?_
  refine sxo_load rfl rfl rfl (by exact .tail .head) rfl rfl rfl rfl ?_
  refine sxo_build rfl rfl rfl rfl rfl rfl rfl rfl rfl ?_
  refine sxo_store rfl rfl rfl rfl (by exact .head) rfl rfl rfl rfl rfl ?_
  refine sxo_end ?_
  refine sx_retL hret hro hk (.cell rfl (by exact .head) rfl rfl .nil) ⟨rfl, rfl⟩ (by exact .nil)
theorem due_ok (pl : Sl) (now : Int) : TR Tryz.prog K 72 [evPtr bn, .o (.int .i64 (-1)), .o (.int .i64 now)] [.blk bn 73 (nodeC bs bt bv bb bw pl sw gv)]
    fun v r => v = .s (.o (.bool true)) ∧ r = [.blk bn 73 (nodeC bs bt bv bb bw pl sw gv)] := by
  refine tr_intro Tryz.func72 rfl rfl rfl fun cx hro hk hret => ?_
  refine sx_seq ?_
  refine sx_region ?_
  refine sxo_pure rfl rfl rfl trivial ?_
  refine sxo_end ?_
  refine sx_seq ?_
  refine sx_region ?_
  refine sxo_pure rfl rfl rfl trivial ?_
  refine sxo_pure rfl rfl rfl trivial ?_
  refine sxo_pure rfl rfl rfl trivial ?_
  refine sxo_pass rfl rfl rfl ?_
  refine sxo_pass rfl rfl rfl ?_
  refine sxo_pass rfl rfl rfl ?_
  refine sxo_pass rfl rfl rfl ?_
  refine sxo_pass rfl rfl rfl ?_
  refine sxo_pass rfl rfl rfl ?_
  refine sxo_pass rfl rfl rfl ?_
  refine sxo_pass rfl rfl rfl ?_
  refine sxo_pass rfl rfl rfl ?_
  refine sxo_pure rfl rfl rfl trivial ?_
  refine sxo_pure rfl rfl rfl trivial ?_
  refine sxo_end ?_
  refine sx_retL hret hro hk (.tmp rfl .nil) ⟨rfl, rfl⟩ (by (apply Take.cons; focus exact .head); exact .nil)
theorem Pull_ok (D : Dig) : TR Tryz.prog K 15 [evPtr bn, .g [.d D]] [.blk bn 73 (nodeC bs bt bv bb bw nilS sw gv), diskO bs]
    fun v r => ∃ bp p n c, v = .s (.o (.int .i64 0)) ∧ r = [.blk bn 73 (nodeC bs bt bv bb bw ⟨p, n, c⟩ sw gv), .vec ⟨p, n, c⟩ 93 1 encP [bp], .blk bp 116 (pullCh D (-1)), diskO bs] := by
  refine tr_intro Tryz.func15 rfl rfl rfl fun cx hro hk hret => ?_
  refine sx_seq ?_
  refine sx_region ?_
  refine sxo_box rfl rfl rfl rfl rfl rfl (fun _ => ?_)
  refine sxo_pure rfl rfl rfl trivial ?_
  refine sxo_end ?_
  refine sx_seq ?_
  refine sx_seq ?_
  refine sx_region ?_
  refine sxo_pure rfl rfl rfl trivial ?_
  refine sxo_pure rfl rfl rfl trivial ?_
  refine sxo_pure rfl rfl rfl trivial ?_
  refine sxo_load rfl rfl rfl (by exact .tail .head) rfl rfl rfl rfl ?_
  refine sxo_end ?_
  refine sx_condF rfl ?_
  refine sx_skip ?_
  refine sx_seq ?_
  refine sx_region ?_
  refine sxo_pure rfl rfl rfl trivial ?_
  refine sxo_load rfl rfl rfl (by exact .head) rfl rfl rfl rfl ?_
  refine sxo_call0 rfl rfl rfl rfl (by (apply Take.cons; focus exact .tail .head); exact .nil) (fun Kc hK hB => nfind_ok Kc bn bs bt bv bb bw sw gv D) rfl rfl ?_ (hH := by rintro v m ⟨rfl, rfl⟩; (exact hh_nil))
  rintro v m ⟨rfl, rfl⟩
  simp only [List.cons_append, List.nil_append, List.append_nil, resV]
  refine sxo_pure rfl rfl rfl trivial ?_
  refine sxo_end ?_
  refine sx_seq ?_
  refine sx_seq ?_
  refine sx_region ?_
  refine sxo_pure rfl rfl rfl trivial ?_
  refine sxo_load rfl rfl rfl (by exact .tail .head) rfl rfl rfl rfl ?_
  refine sxo_call0 rfl rfl rfl rfl (by (apply Take.cons; focus exact .head); (apply Take.cons; focus exact .tail .head); exact .nil) (fun Kc hK hB => there_ok Kc bn bs bt bv bb bw nilS sw gv D) rfl rfl ?_ (hH := by rintro v m ⟨rfl, rfl⟩; (exact hh_nil))
  rintro v m ⟨rfl, rfl⟩
  simp only [List.cons_append, List.nil_append, List.append_nil, resV]
  refine sxo_nilVec encP 93 1 ?_
  refine sxo_pure rfl rfl rfl trivial ?_
  refine sxo_pure rfl rfl rfl trivial ?_
  refine sxo_pure rfl rfl rfl trivial ?_
  refine sxo_pure rfl rfl rfl trivial ?_
  refine sxo_pass rfl rfl rfl ?_
  refine sxo_pass rfl rfl rfl ?_
  refine sxo_pass rfl rfl rfl ?_
  refine sxo_pass rfl rfl rfl ?_
  refine sxo_pass rfl rfl rfl ?_
  refine sxo_pass rfl rfl rfl ?_
  refine sxo_pass rfl rfl rfl ?_
  refine sxo_pass rfl rfl rfl ?_
  refine sxo_pass rfl rfl rfl ?_
  refine sxo_pass rfl rfl rfl ?_
  refine sxo_pass rfl rfl rfl ?_
  refine sxo_pure rfl rfl rfl trivial ?_
  refine sxo_pure rfl rfl rfl trivial ?_
  refine sxo_end ?_
  refine sx_condF rfl ?_
  refine sx_skip ?_
  refine sx_seq ?_
  refine sx_seq ?_
  refine sx_region ?_
  refine sxo_pure rfl rfl rfl trivial ?_
  refine sxo_pure rfl rfl rfl trivial ?_
  refine sxo_end ?_
  refine sx_condF rfl ?_
  refine sx_skip ?_
  refine sx_seq ?_
  refine sx_seq ?_
  refine sx_region ?_
  refine sxo_pure rfl rfl rfl trivial ?_
  refine sxo_pure rfl rfl rfl trivial ?_
  refine sxo_pure rfl rfl rfl trivial ?_
  refine sxo_load rfl rfl rfl (by exact .tail .head) rfl rfl rfl rfl ?_
  refine sxo_len rfl rfl rfl rfl rfl (by exact Reads.own (by exact .head)) rfl rfl ?_
  refine sxo_pure rfl rfl rfl trivial ?_
  refine sxo_end ?_
  refine sx_condF rfl ?_
  refine sx_skip ?_
  refine sx_seq ?_
  refine sx_drawN 10 (by kernel_rfl) [0, 1, 2, 3, 4, 5, 6, 7, 8, 9, 10, 11, 12] [(4, 7), (4, 8)] (by kernel_rfl) ?_
  refine sxo_pure rfl rfl rfl trivial ?_
  refine sxo_pure rfl rfl rfl trivial ?_
  refine sxo_pure rfl rfl rfl trivial ?_
  refine sxo_pure rfl rfl rfl trivial ?_
  refine sxo_loadF rfl rfl rfl (by exact .tail .head) rfl rfl rfl ?_
  refine sxo_load rfl rfl rfl (by exact .tail (.tail (.tail .head))) rfl rfl rfl rfl ?_
  refine sxo_build rfl rfl rfl rfl rfl rfl rfl rfl rfl ?_
  refine sxo_box rfl rfl rfl rfl rfl rfl (fun _ => ?_)
  refine sxo_buildSlice rfl rfl rfl rfl rfl rfl rfl rfl rfl rfl rfl rfl rfl (fun _ => ?_)
  rename_i bp bq
  refine sxo_append (lx := [bp]) rfl rfl rfl rfl rfl rfl rfl rfl rfl rfl (by exact .tail (.tail .head)) (Reads.one (by exact .head) rfl rfl) (fun _ => rfl) rfl rfl rfl (by simp) (fun p1 n1 c1 => ?_)
  refine sxo_pure rfl rfl rfl trivial ?_
  refine sxo_pure rfl rfl rfl trivial ?_
  refine sxo_store rfl rfl rfl rfl (by exact .tail (.tail (.tail .head))) rfl rfl rfl rfl rfl ?_
  refine sxo_end ?_
  refine sx_seq ?_
  refine sx_region ?_
  refine sxo_pure rfl rfl rfl trivial ?_
  refine sxo_end ?_
  refine sx_retL hret hro hk (.tmp rfl .nil) ⟨bp, p1, n1, c1, rfl, rfl⟩ (by (apply Take.cons; focus exact .head); (apply Take.cons; focus exact .head); (apply Take.cons; focus exact .tail .head); (apply Take.cons; focus exact .tail .head); exact .nil)
theorem work1_ok (pl : Sl) (bp : Nat) (D : Dig) (now seed : Int) : TR Tryz.prog K 32 [evPtr bn, evPtr bp, .o (.int .i64 now), .o (.int .u64 seed)] [.blk bn 73 (nodeC bs bt bv bb bw pl sw gv), .blk bp 116 (pullCh D (-1)), diskO bs]
    fun v r => ∃ p n c, v = .t [.o (.slice p n c), .o (.bool false), .o (.int .i64 0)] ∧ r = [.blk bn 73 (nodeC bs bt bv bb bw pl sw gv), .blk bp 116 (pullCh D now), diskO bs, .vec ⟨p, n, c⟩ 56 40 encOut [(0, askM 9 D)]] := by
  refine tr_intro Tryz.func32 rfl rfl rfl fun cx hro hk hret => ?_
  refine sx_seq ?_
  refine sx_region ?_
  refine sxo_box rfl rfl rfl rfl rfl rfl (fun _ => ?_)
  refine sxo_pure rfl rfl rfl trivial ?_
  refine sxo_pure rfl rfl rfl trivial ?_
  refine sxo_pure rfl rfl rfl trivial ?_
  refine sxo_end ?_
  refine sx_seq ?_
  refine sx_block ?_
  refine sx_seq ?_
  refine sx_region ?_
  refine sxo_pure rfl rfl rfl trivial ?_
  refine sxo_pure rfl rfl rfl trivial ?_
  refine sxo_pure rfl rfl rfl trivial ?_
  refine sxo_load rfl rfl rfl (by exact .tail (.tail .head)) rfl rfl rfl rfl ?_
  refine sxo_pure rfl rfl rfl trivial ?_
  refine sxo_pure rfl rfl rfl trivial ?_
  refine sxo_end ?_
  refine sx_condF rfl ?_
  refine sx_seq ?_
  refine sx_drawN 3 (by kernel_rfl) [0, 1, 2, 3, 4, 5, 6] [] (by kernel_rfl) ?_
  refine sxo_load rfl rfl rfl (by exact .head) rfl rfl rfl rfl ?_
  refine sxo_pure rfl rfl rfl trivial ?_
  refine sxo_pure rfl rfl rfl trivial ?_
  refine sxo_pure rfl rfl rfl trivial ?_
  refine sxo_load rfl rfl rfl (by exact .tail (.tail .head)) rfl rfl rfl rfl ?_
  refine sxo_call0 rfl rfl rfl rfl (by (apply Take.cons; focus exact .tail .head); (apply Take.cons; focus exact .tail (.tail .head)); exact .nil) (fun Kc hK hB => there_ok Kc bn bs bt bv bb bw pl sw gv D) rfl rfl ?_ (hH := by rintro v m ⟨rfl, rfl⟩; (exact hh_nil))
  rintro v m ⟨rfl, rfl⟩
  simp only [List.cons_append, List.nil_append, List.append_nil, resV]
  refine sxo_pure rfl rfl rfl trivial ?_
  refine sxo_end ?_
  refine sx_condF rfl ?_
  refine sx_seq ?_
  refine sx_drawN 5 (by kernel_rfl) [0, 1, 2, 3, 4, 5, 6, 7, 8, 9, 10, 11, 12, 13, 14] [] (by kernel_rfl) ?_
  refine sxo_pure rfl rfl rfl trivial ?_
  refine sxo_pure rfl rfl rfl trivial ?_
  refine sxo_pure rfl rfl rfl trivial ?_
  refine sxo_load rfl rfl rfl (by exact .tail (.tail (.tail .head))) rfl rfl rfl rfl ?_
  refine sxo_eqPtr rfl rfl rfl rfl rfl rfl rfl rfl ?_
  refine sxo_pure rfl rfl rfl trivial ?_
  refine sxo_load rfl rfl rfl (by exact .tail (.tail .head)) rfl rfl rfl rfl ?_
  refine sxo_pure rfl rfl rfl trivial ?_
  refine sxo_pure rfl rfl rfl trivial ?_
  refine sxo_pure rfl rfl rfl trivial ?_
  refine sxo_load rfl rfl rfl (by exact .tail (.tail (.tail .head))) rfl rfl rfl rfl ?_
  refine sxo_pure rfl rfl rfl trivial ?_
  refine sxo_call0 rfl rfl rfl rfl (by (apply Take.cons; focus exact .head); exact .nil) (fun Kc hK hB => due_ok Kc bn bs bt bv bb bw sw gv pl now) rfl rfl ?_ (hH := by rintro v m ⟨rfl, rfl⟩; (exact hh_nil))
  rintro v m ⟨rfl, rfl⟩
  simp only [List.cons_append, List.nil_append, List.append_nil, resV]
  refine sxo_pure rfl rfl rfl trivial ?_
  refine sxo_pure rfl rfl rfl trivial ?_
  refine sxo_end ?_
  refine sx_condT rfl ?_
  refine sx_seq ?_
  refine sx_region ?_
  refine sxo_pure rfl rfl rfl trivial ?_
  refine sxo_pure rfl rfl rfl trivial ?_
  refine sxo_pure rfl rfl rfl trivial ?_
  refine sxo_pure rfl rfl rfl trivial ?_
  refine sxo_store rfl rfl rfl rfl (by exact .tail (.tail (.tail .head))) rfl rfl rfl rfl rfl ?_
  refine sxo_end ?_
  refine sx_seq ?_
  refine sx_region ?_
  refine sxo_pure rfl rfl rfl trivial ?_
  refine sxo_pure rfl rfl rfl trivial ?_
  refine sxo_pure rfl rfl rfl trivial ?_
  refine sxo_load rfl rfl rfl (by exact .head) rfl rfl rfl rfl ?_
  refine sxo_call0 rfl rfl rfl rfl (by exact .nil) (fun Kc hK hB => message_ok Kc 9 D) rfl rfl ?_ (hH := by rintro v m ⟨rfl, rfl⟩; (exact hh_nil))
  rintro v m ⟨rfl, rfl⟩
  simp only [List.cons_append, List.nil_append, List.append_nil, resV]
  refine sxo_build rfl rfl rfl rfl rfl rfl rfl rfl rfl ?_
  refine sxo_buildSlice rfl rfl rfl rfl rfl rfl rfl rfl rfl rfl rfl rfl rfl (fun _ => ?_)
  refine sxo_pure rfl rfl rfl trivial ?_
  refine sxo_pure rfl rfl rfl trivial ?_
  refine sxo_pure rfl rfl rfl trivial ?_
  refine sxo_end ?_
  rename_i bq
  refine sx_recast (.vec ⟨some ⟨bq, 0, none⟩, 1, 1⟩ 56 40 encOut [(0, askM 9 D)]) (by exact .head) (fun _ hb => blk_vec hb rfl rfl (fun _ _ => rfl)) ?_
  refine sx_retL hret hro hk (.tmp rfl (.tmp rfl (.tmp rfl .nil))) ⟨_, _, _, rfl, rfl⟩ (by (apply Take.cons; focus exact .tail (.tail .head)); (apply Take.cons; focus exact .tail .head); (apply Take.cons; focus exact .tail .head); (apply Take.cons; focus exact .head); exact .nil)
theorem Tick1_ok (pl : Sl) (bp : Nat) (D : Dig) : TR Tryz.prog K 9 [evPtr bn, .o (.int .i64 1), .o (.int .u64 0)] [.blk bn 73 (nodeC bs bt bv bb bw pl sw gv), .vec pl 93 1 encP [bp], .blk bp 116 (pullCh D (-1)), bookO bb, viewO bv [], diskO bs]
    fun v r => ∃ p n c, v = .t [.o (.slice p n c), .o (.int .i64 0)] ∧ r = [.vec ⟨p, n, c⟩ 56 40 encOut [(0, askM 9 D)]] := by
  obtain ⟨pp, pn, pc⟩ := pl
  refine tr_intro Tryz.func9 rfl rfl rfl fun cx hro hk hret => ?_
  refine sx_seq ?_
  refine sx_region ?_
  refine sxo_pure rfl rfl rfl trivial ?_
  refine sxo_pure rfl rfl rfl trivial ?_
  refine sxo_end ?_
  refine sx_seq ?_
  refine sx_block ?_
  refine sx_seq ?_
  refine sx_region ?_
  refine sxo_pure rfl rfl rfl trivial ?_
  refine sxo_pure rfl rfl rfl trivial ?_
  refine sxo_pure rfl rfl rfl trivial ?_
  refine sxo_load rfl rfl rfl (by exact .head) rfl rfl rfl rfl ?_
  refine sxo_pure rfl rfl rfl trivial ?_
  refine sxo_end ?_
  refine sx_condF rfl ?_
  refine sx_seq ?_
  refine sx_region ?_
  refine sxo_pure rfl rfl rfl trivial ?_
  refine sxo_call0 rfl rfl rfl rfl (by exact .nil) (fun Kc hK hB => nodeWithin_t Kc 1 0 1099511627776 (by decide)) rfl rfl ?_ (hH := by rintro v m ⟨rfl, rfl⟩; (exact hh_nil))
  rintro v m ⟨rfl, rfl⟩
  simp only [List.cons_append, List.nil_append, List.append_nil, resV]
  refine sxo_pure rfl rfl rfl trivial ?_
  refine sxo_pure rfl rfl rfl trivial ?_
  refine sxo_end ?_
  refine sx_condF rfl ?_
  refine sx_skip ?_
  refine sx_inBlock ?_
  refine sx_seq ?_
  refine sx_region ?_
  refine sxo_pure rfl rfl rfl trivial ?_
  refine sxo_pure rfl rfl rfl trivial ?_
  refine sxo_pure rfl rfl rfl trivial ?_
  refine sxo_load rfl rfl rfl (by exact .head) rfl rfl rfl rfl ?_
  refine sxo_pure rfl rfl rfl trivial ?_
  refine sxo_call0 rfl rfl rfl rfl (by (apply Take.cons; focus exact .tail (.tail (.tail .head))); exact .nil) (fun Kc hK hB => ExpireO Kc bb 1 (by decide)) rfl rfl ?_ (hH := by rintro v m rfl; (exact hh_nil))
  rintro v m rfl
  simp only [List.cons_append, List.nil_append, List.append_nil, resV]
  refine sxo_end ?_
  refine sx_seq ?_
  refine sx_drawN 6 (by kernel_rfl) [0, 1, 2, 3, 4, 5, 6, 7, 8, 9, 10, 11, 12] [] (by kernel_rfl) ?_
  refine sxo_pure rfl rfl rfl trivial ?_
  refine sxo_pure rfl rfl rfl trivial ?_
  refine sxo_pure rfl rfl rfl trivial ?_
  refine sxo_load rfl rfl rfl (by exact .tail .head) rfl rfl rfl rfl ?_
  refine sxo_pure rfl rfl rfl trivial ?_
  refine sxo_pure rfl rfl rfl trivial ?_
  refine sxo_pure rfl rfl rfl trivial ?_
  refine sxo_pure rfl rfl rfl trivial ?_
  refine sxo_pure rfl rfl rfl trivial ?_
  refine sxo_load rfl rfl rfl (by exact .tail .head) rfl rfl rfl rfl ?_
  refine sxo_pure rfl rfl rfl (by omega) ?_
  refine sxo_min rfl rfl rfl rfl rfl ?_
  refine sxo_call0 rfl rfl rfl rfl (by (apply Take.cons; focus exact .tail (.tail (.tail (.tail .head)))); exact .nil) (fun Kc hK hB => TickO Kc bv [] (by decide) VOk.nil 1 _ (by decide) (by decide)) rfl rfl ?_ (hH := by rintro v m ⟨m', hv', hm', rfl⟩; (exact hh_nil))
  rintro v m ⟨m', hv', hm', rfl⟩
  simp only [List.cons_append, List.nil_append, List.append_nil, resV]
  have hm0 : m' = [] := List.eq_nil_of_length_eq_zero (by simpa using hm')
  subst hm0
  refine sxo_nilVec encP 93 1 ?_
  refine sxo_nilVec encOut 56 40 ?_
  refine sxo_end ?_
  refine sx_seq ?_
  refine sx_seq ?_
  refine sx_region ?_
  refine sxo_pure rfl rfl rfl trivial ?_
  refine sxo_pure rfl rfl rfl (by omega) ?_
  refine sxo_pure rfl rfl rfl trivial ?_
  refine sxo_end ?_
  refine sx_condF rfl ?_
  refine sx_skip ?_
  refine sx_seq ?_
  refine sx_region ?_
  refine sxo_pure rfl rfl rfl trivial ?_
  refine sxo_end ?_
  refine sx_seq ?_
  refine sx_region ?_
  refine sxo_pure rfl rfl rfl trivial ?_
  refine sxo_end ?_
  refine sx_seq ?_
  refine sx_seq ?_
  refine sx_region ?_
  refine sxo_pure rfl rfl rfl trivial ?_
  refine sxo_pure rfl rfl rfl trivial ?_
  refine sxo_pure rfl rfl rfl trivial ?_
  refine sxo_load rfl rfl rfl (by exact .tail (.tail (.tail (.tail .head)))) rfl rfl rfl rfl ?_
  refine sxo_len rfl rfl rfl rfl rfl (by exact Reads.own (by exact .tail (.tail (.tail (.tail (.tail .head)))))) rfl rfl ?_
  refine sxo_pure rfl rfl rfl trivial ?_
  refine sxo_end ?_
  refine sx_block ?_
  refine sx_loop1 ?_
  refine sx_seq ?_
  refine sx_region ?_
  refine sxo_pure rfl rfl rfl trivial ?_
  refine sxo_end ?_
  refine sx_seq ?_
  refine sx_condT rfl ?_
  refine sx_skip ?_
  refine sx_seq ?_
  refine sx_block ?_
  refine sx_seq ?_
  refine sx_region ?_
  refine sxo_pure rfl rfl rfl trivial ?_
  refine sxo_indexAddr rfl rfl rfl rfl rfl rfl rfl (Reads.own (by exact .tail (.tail (.tail (.tail (.tail .head)))))) (by simp) rfl (fun _ _ => ?_)
  refine sxo_loadEl0 rfl rfl rfl (by exact .head) (Reads.own (by exact .tail (.tail (.tail (.tail (.tail (.tail .head))))))) rfl (by simp) (fun _ => rfl) rfl rfl (fun x hx => ?_)
  simp at hx
  subst hx
  refine sxo_pure rfl rfl rfl trivial ?_
  refine sxo_pure rfl rfl rfl trivial ?_
  refine sxo_end ?_
  refine sx_seq ?_
  refine sx_region ?_
  refine sxo_pure rfl rfl rfl trivial ?_
  refine sxo_pure rfl rfl rfl trivial ?_
  refine sxo_pure rfl rfl rfl trivial ?_
  refine sxo_pure rfl rfl rfl trivial ?_
  refine sxo_call0 rfl rfl rfl rfl (by (apply Take.cons; focus exact .tail (.tail (.tail (.tail (.tail .head))))); (apply Take.cons; focus exact .tail (.tail (.tail (.tail (.tail (.tail .head)))))); (apply Take.cons; focus exact .tail (.tail (.tail (.tail (.tail (.tail .head)))))); exact .nil) (fun Kc hK hB => work1_ok Kc bn bs bt bv bb bw sw gv _ bp D 1 0) rfl rfl ?_ (hH := by rintro v m ⟨p1, n1, c1, rfl, rfl⟩; (exact hh_nil))
  rintro v m ⟨p1, n1, c1, rfl, rfl⟩
  simp only [List.cons_append, List.nil_append, List.append_nil, resV]
  refine sxo_pure rfl rfl rfl trivial ?_
  refine sxo_pure rfl rfl rfl trivial ?_
  refine sxo_pure rfl rfl rfl trivial ?_
  refine sxo_pure rfl rfl rfl trivial ?_
  refine sxo_pure rfl rfl rfl trivial ?_
  refine sxo_pure rfl rfl rfl trivial ?_
  refine sxo_pure rfl rfl rfl trivial ?_
  refine sxo_end ?_
  refine sx_seq ?_
  refine sx_seq ?_
  refine sx_region ?_
  refine sxo_pure rfl rfl rfl trivial ?_
  refine sxo_pure rfl rfl rfl trivial ?_
  refine sxo_end ?_
  refine sx_condF rfl ?_
  refine sx_skip ?_
  refine sx_seq ?_
  refine sx_region ?_
  refine sxo_pure rfl rfl rfl trivial ?_
  refine sxo_pure rfl rfl rfl trivial ?_
  refine sxo_append (lx := [((0, askM 9 D) : Int × Msg)]) rfl rfl rfl rfl rfl rfl rfl rfl rfl rfl (by exact .tail (.tail (.tail (.tail (.tail .head))))) (Reads.own (by exact .tail (.tail (.tail .head)))) (fun _ => rfl) rfl rfl rfl (by simp) (fun p2 n2 c2 => ?_)
  refine sxo_pure rfl rfl rfl trivial ?_
  refine sxo_end ?_
  refine sx_seq ?_
  refine sx_region ?_
  refine sxo_pure rfl rfl rfl trivial ?_
  refine sxo_pure rfl rfl rfl trivial ?_
  refine sxo_end ?_
  refine sx_condT rfl ?_
  refine sx_region ?_
  refine sxo_pure rfl rfl rfl trivial ?_
  refine sxo_pure rfl rfl rfl trivial ?_
  refine sxo_buildSlice rfl rfl rfl rfl rfl rfl rfl rfl rfl rfl rfl rfl rfl (fun _ => ?_)
  refine sxo_append (lx := [bp]) rfl rfl rfl rfl rfl rfl rfl rfl rfl rfl (by exact .tail (.tail (.tail (.tail (.tail (.tail (.tail .head))))))) (Reads.one (by exact .head) rfl rfl) (fun _ => rfl) rfl rfl rfl (by simp) (fun p3 n3 c3 => ?_)
  refine sxo_pure rfl rfl rfl trivial ?_
  refine sxo_end ?_
  refine sx_inBlock ?_
  refine sx_region ?_
  refine sxo_pure rfl rfl rfl (by omega) ?_
  refine sxo_pure rfl rfl rfl trivial ?_
  refine sxo_end ?_
  refine sx_again1 ?_
  refine sx_seq ?_
  refine sx_region ?_
  refine sxo_pure rfl rfl rfl trivial ?_
  refine sxo_end ?_
  refine sx_seq ?_
  refine sx_condF rfl ?_
  refine sx_exit rfl ?_
  refine sx_seq ?_
  refine sx_region ?_
  refine sxo_pure rfl rfl rfl trivial ?_
  refine sxo_pure rfl rfl rfl trivial ?_
  refine sxo_pure rfl rfl rfl trivial ?_
  refine sxo_pure rfl rfl rfl trivial ?_
  refine sxo_store rfl rfl rfl rfl (by exact .tail (.tail (.tail .head))) rfl rfl rfl rfl rfl ?_
  refine sxo_end ?_
  refine sx_seq ?_
  refine sx_seq ?_
  refine sx_region ?_
  refine sxo_pure rfl rfl rfl trivial ?_
  refine sxo_pure rfl rfl rfl trivial ?_
  refine sxo_pure rfl rfl rfl trivial ?_
  refine sxo_load rfl rfl rfl (by exact .head) rfl rfl rfl rfl ?_
  refine sxo_pure rfl rfl rfl trivial ?_
  refine sxo_call0 rfl rfl rfl rfl (by (apply Take.cons; focus exact .tail (.tail (.tail (.tail (.tail (.tail (.tail (.tail .head)))))))); exact .nil) (fun Kc hK hB => ProbeO Kc bv [] (by decide) 0) rfl rfl ?_ (hH := by rintro v m ⟨id, b, rfl, rfl, hpos⟩; (exact hh_nil))
  rintro v m ⟨id, b, rfl, rfl, hpos⟩
  simp only [List.cons_append, List.nil_append, List.append_nil, resV]
  have hb : b = false := by cases b with
    | true => exact absurd (hpos rfl) (by simp)
    | false => rfl
  subst hb
  refine sxo_pure rfl rfl rfl trivial ?_
  refine sxo_pure rfl rfl rfl trivial ?_
  refine sxo_pure rfl rfl rfl trivial ?_
  refine sxo_pure rfl rfl rfl trivial ?_
  refine sxo_pure rfl rfl rfl trivial ?_
  refine sxo_end ?_
  refine sx_seq ?_
  refine sx_region ?_
  refine sxo_pure rfl rfl rfl trivial ?_
  refine sxo_end ?_
  refine sx_condF rfl ?_
  refine sx_skip ?_
  refine sx_seq ?_
  refine sx_region ?_
  refine sxo_pure rfl rfl rfl trivial ?_
  refine sxo_pure rfl rfl rfl trivial ?_
  refine sxo_pure rfl rfl rfl trivial ?_
  refine sxo_end ?_
  refine sx_retL hret hro hk (.tmp rfl (.tmp rfl .nil)) ⟨p2, n2, c2, rfl, rfl⟩ (by (apply Take.cons; focus exact .tail (.tail (.tail (.tail .head)))); exact .nil)
end
end Go.SX

namespace Go.SX
open Go.Proofs
attribute [local irreducible] SX SXo
set_option maxRecDepth 20000
set_option maxHeartbeats 4000000
theorem set_ok (K : Hp) : TR Tryz.prog K 8 [] [] fun v r => v = .s (.g setCh) ∧ r = [] := by
  refine tr_intro Tryz.func8 rfl rfl rfl fun cx hro hk hret => ?_
  refine sx_seq ?_
  refine sx_region ?_
  refine sxo_alloc rfl rfl rfl rfl rfl rfl (fun _ => ?_)
  refine sxo_end ?_
  refine sx_seq ?_
  refine sx_region ?_
  refine sxo_build rfl rfl rfl rfl rfl rfl rfl rfl rfl ?_
  refine sxo_store rfl rfl rfl rfl (by exact .head) rfl rfl rfl rfl rfl ?_
  refine sxo_end ?_
  refine sx_retL hret hro hk (.cell rfl (by exact .head) rfl rfl .nil) ⟨rfl, rfl⟩ (by exact .nil)
theorem awake_ok (K : Hp) : TR Tryz.prog K 4 [] [] fun v r => v = .s (.o (.bool true)) ∧ r = [] := by
  refine tr_intro Tryz.func4 rfl rfl rfl fun cx hro hk hret => ?_
  refine sx_seq ?_
  refine sx_region ?_
  refine sxo_pure rfl rfl rfl trivial ?_
  refine sxo_end ?_
  refine sx_seq ?_
  refine sx_region ?_
  refine sxo_call0 rfl rfl rfl rfl (by exact .nil) (fun Kc hK hB => filesNew_ok Kc 1048576 (by decide)) rfl rfl ?_ (hH := by rintro v m ⟨bd, bm, st, q, rfl, rfl⟩; (exact hh_nil))
  rintro v m ⟨bd, bm, st, q, rfl, rfl⟩
  simp only [List.cons_append, List.nil_append, List.append_nil, resV]
  refine sxo_pure rfl rfl rfl trivial ?_
  refine sxo_pure rfl rfl rfl trivial ?_
  refine sxo_pure rfl rfl rfl trivial ?_
  refine sxo_pure rfl rfl rfl trivial ?_
  refine sxo_pure rfl rfl rfl trivial ?_
  refine sxo_end ?_
  refine sx_seq ?_
  refine sx_seq ?_
  refine sx_region ?_
  refine sxo_pure rfl rfl rfl trivial ?_
  refine sxo_pure rfl rfl rfl trivial ?_
  refine sxo_pure rfl rfl rfl trivial ?_
  refine sxo_pure rfl rfl rfl trivial ?_
  refine sxo_eqPtr rfl rfl rfl rfl rfl rfl rfl rfl ?_
  refine sxo_pure rfl rfl rfl trivial ?_
  refine sxo_end ?_
  refine sx_condF rfl ?_
  refine sx_skip ?_
  refine sx_seq ?_
  refine sx_region ?_
  refine sxo_pure rfl rfl rfl trivial ?_
  refine sxo_call0 rfl rfl rfl rfl (by exact .nil) (fun Kc hK hB => set_ok Kc) rfl rfl ?_ (hH := by rintro v m ⟨rfl, rfl⟩; (exact hh_nil))
  rintro v m ⟨rfl, rfl⟩
  simp only [List.cons_append, List.nil_append, List.append_nil, resV]
  skip
  refine sxo_call0 rfl rfl rfl rfl (by (apply Take.cons; focus exact .head); (apply Take.cons; focus exact .head); (apply Take.cons; focus exact .head); exact .nil) (fun Kc hK hB => nodeOpen_ok Kc bd 1048576 bm st [q] (by decide) (by simp)) rfl rfl ?_ (hH := by rintro v m ⟨bn, bs, bt, bv, bb, bw, sw, gv, rfl, rfl⟩; (exact hh_nil))
  rintro v m ⟨bn, bs, bt, bv, bb, bw, sw, gv, rfl, rfl⟩
  simp only [List.cons_append, List.nil_append, List.append_nil, resV]
  refine sxo_pure rfl rfl rfl trivial ?_
  refine sxo_pure rfl rfl rfl trivial ?_
  refine sxo_pure rfl rfl rfl trivial ?_
  refine sxo_pure rfl rfl rfl trivial ?_
  refine sxo_pure rfl rfl rfl trivial ?_
  refine sxo_end ?_
  refine sx_seq ?_
  refine sx_seq ?_
  refine sx_region ?_
  refine sxo_pure rfl rfl rfl trivial ?_
  refine sxo_pure rfl rfl rfl trivial ?_
  refine sxo_pure rfl rfl rfl trivial ?_
  refine sxo_pure rfl rfl rfl trivial ?_
  refine sxo_eqPtr rfl rfl rfl rfl rfl rfl rfl rfl ?_
  refine sxo_pure rfl rfl rfl trivial ?_
  refine sxo_end ?_
  refine sx_condF rfl ?_
  refine sx_skip ?_
  refine sx_seq ?_
  refine sx_region ?_
  refine sxo_pure rfl rfl rfl trivial ?_
  refine sxo_buildDig (n := 5) (by decide) rfl rfl rfl rfl rfl rfl rfl rfl ?_
  skip
  refine sxo_call0 rfl rfl rfl rfl (by (apply Take.cons; focus exact .head); (apply Take.cons; focus exact .head); exact .nil) (fun Kc hK hB => Pull_ok Kc bn bs bt bv bb bw sw gv _) rfl rfl ?_ (hH := by rintro v m ⟨bp, p, n, c, rfl, rfl⟩; (exact hh_nil))
  rintro v m ⟨bp, p, n, c, rfl, rfl⟩
  simp only [List.cons_append, List.nil_append, List.append_nil, resV]
  refine sxo_pure rfl rfl rfl trivial ?_
  refine sxo_end ?_
  refine sx_seq ?_
  refine sx_region ?_
  refine sxo_pure rfl rfl rfl trivial ?_
  refine sxo_call0 rfl rfl rfl rfl (by (apply Take.cons; focus exact .head); (apply Take.cons; focus exact .head); (apply Take.cons; focus exact .head); (apply Take.cons; focus exact .tail (.tail (.tail .head))); (apply Take.cons; focus exact .tail (.tail .head)); (apply Take.cons; focus exact .head); exact .nil) (fun Kc hK hB => Tick1_ok Kc bn bs bt bv bb bw sw gv ⟨p, n, c⟩ bp _) rfl rfl ?_ (hH := by rintro v m ⟨p1, n1, c1, rfl, rfl⟩; (exact hh_nil))
  rintro v m ⟨p1, n1, c1, rfl, rfl⟩
  simp only [List.cons_append, List.nil_append, List.append_nil, resV]
  refine sxo_pure rfl rfl rfl trivial ?_
  refine sxo_pure rfl rfl rfl trivial ?_
  refine sxo_pure rfl rfl rfl trivial ?_
  refine sxo_pure rfl rfl rfl trivial ?_
  refine sxo_pure rfl rfl rfl trivial ?_
  refine sxo_end ?_
  refine sx_seq ?_
  refine sx_region ?_
  refine sxo_pure rfl rfl rfl trivial ?_
  refine sxo_pure rfl rfl rfl trivial ?_
  refine sxo_pure rfl rfl rfl trivial ?_
  refine sxo_pure rfl rfl rfl trivial ?_
  refine sxo_pure rfl rfl rfl trivial ?_
  refine sxo_pure rfl rfl rfl trivial ?_
  refine sxo_pure rfl rfl rfl trivial ?_
  refine sxo_pure rfl rfl rfl trivial ?_
  refine sxo_len rfl rfl rfl rfl rfl (by exact Reads.own (by exact .head)) rfl rfl ?_
  refine sxo_pure rfl rfl rfl trivial ?_
  refine sxo_pure rfl rfl rfl trivial ?_
  refine sxo_pure rfl rfl rfl trivial ?_
  refine sxo_pure rfl rfl rfl trivial ?_
  refine sxo_indexAddr rfl rfl rfl rfl rfl rfl rfl (Reads.own (by exact .head)) (by simp) rfl (fun _ _ => ?_)
  refine sxo_pure rfl rfl rfl trivial ?_
  refine sxo_pure rfl rfl rfl trivial ?_
  refine sxo_loadEl (fo := 1) rfl rfl rfl (by exact .head) (Reads.own (by exact .tail .head)) rfl (by simp) (fun _ => rfl) rfl rfl (fun x hx => ?_)
  simp at hx
  subst hx
  refine sxo_pure rfl rfl rfl trivial ?_
  refine sxo_pure rfl rfl rfl trivial ?_
  refine sxo_pure rfl rfl rfl trivial ?_
  refine sxo_end ?_
  refine sx_retL hret hro hk (.tmp rfl .nil) ⟨rfl, rfl⟩ (by exact .nil)
structure Stp where
  act : Int
  from_ : Int
  now : Int
  I : Int
  N : Int
  cut : Int
  m : Msg
  hash : Dig
  b : Sl
  seed : Int
@[reducible] def encStp (x : Stp) : List Ch := [.c (.int .i64 x.act), .c (.int .i64 x.from_), .c (.int .i64 x.now), .c (.int .i64 x.I), .c (.int .i64 x.N), .c (.int .i64 x.cut),
  .c (.int .i64 x.m.kind), .d x.m.hash, .c (.int .i64 x.m.piece), .c x.m.ids.v, .c x.m.bytes.v, .c x.m.proof.v, .c x.m.mems.v, .c (.bool x.m.seed), .d x.hash, .c x.b.v, .c (.int .u64 x.seed)]
theorem much_ok (K : Hp) (p : Option Addr) (n c : Nat) (l : List Stp) (hl : l.length < 4611686018427387904) (hv : VecRd ⟨p, n, c⟩ 45 79 encStp l K) : TR Tryz.prog K 5 [.o (.slice p n c)] []
    fun v r => (∃ b : Bool, v = .s (.o (.bool b))) ∧ r = [] := by
  refine tr_intro Tryz.func5 rfl rfl rfl fun cx hro hk hret => ?_
  refine sx_seq ?_
  refine sx_region ?_
  refine sxo_pure rfl rfl rfl trivial ?_
  refine sxo_end ?_
  refine sx_seq ?_
  refine sx_region ?_
  refine sxo_pure rfl rfl rfl trivial ?_
  refine sxo_end ?_
  refine sx_seq ?_
  refine sx_seq ?_
  refine sx_region ?_
  refine sxo_pure rfl rfl rfl trivial ?_
  refine sxo_end ?_
  refine sx_block ?_
  refine sx_less (by refine .cons rfl ?_; refine .cons rfl ?_; refine .cons rfl ?_; exact .nil _) (by exact .nil) (sx_loopI (γ := Nat × Int) (fun x => x.1 ≤ l.length) (fun x => l.length - x.1) (fun x => [(0, .s (.o (.slice p n c))), (3, .s (.o (.int .i64 x.2))), (4, .s (.o (.int .i64 x.1)))]) (fun _ => []) ((0, 0)) (by simp) ?_)
  rintro ⟨j, tot⟩ hj ih
  simp only at hj
  refine sx_seq ?_
  refine sx_seq ?_
  refine sx_region ?_
  refine sxo_pure rfl rfl rfl trivial ?_
  refine sxo_pure rfl rfl rfl trivial ?_
  refine sxo_lenV rfl rfl rfl rfl rfl rfl rfl ?_
  refine sxo_pure rfl rfl rfl trivial ?_
  refine sxo_pure rfl rfl rfl trivial ?_
  have hn : n = l.length := hv.len
  refine sxo_split (t := 10) rfl (fun h1 => ?_) (fun h1 => ?_)
  · simp at h1
    refine sxo_pure rfl rfl rfl trivial ?_
    refine sxo_pure rfl rfl rfl trivial ?_
    refine sxo_pure rfl rfl rfl trivial ?_
    refine sxo_end ?_
    refine sx_cond rfl (fun h2 => ?_) (fun h2 => ?_)
    · refine sx_skip ?_
      refine sx_seq ?_
      refine sx_block ?_
      refine sx_seq ?_
      refine sx_region ?_
      refine sxo_pure rfl rfl rfl trivial ?_
      refine sxo_pure rfl rfl rfl trivial ?_
      refine sxo_indexAddr rfl rfl rfl rfl rfl rfl rfl (Reads.beside hv) (by simp only; omega) rfl (fun _ _ => ?_)
      refine sxo_pure rfl rfl rfl trivial ?_
      refine sxo_loadEl (fo := 6) rfl rfl rfl (by exact .head) (Reads.beside hv) rfl (by simp; omega) (fun _ => rfl) rfl rfl (fun x hx => ?_)
      refine sxo_alloc rfl rfl rfl rfl rfl rfl (fun _ => ?_)
      refine sxo_store rfl rfl rfl rfl (by exact .head) rfl rfl rfl rfl rfl ?_
      refine sxo_end ?_
      refine sx_seq ?_
      refine sx_seq ?_
      refine sx_region ?_
      refine sxo_pure rfl rfl rfl trivial ?_
      refine sxo_pure rfl rfl rfl trivial ?_
      refine sxo_indexAddr rfl rfl rfl rfl rfl rfl rfl (Reads.beside hv) (by simp only; omega) rfl (fun _ _ => ?_)
      refine sxo_pure rfl rfl rfl trivial ?_
      refine sxo_loadEl (fo := 77) rfl rfl rfl (by exact .head) (Reads.beside hv) rfl (by simp; omega) (fun _ => rfl) rfl rfl (fun y hy => ?_)
      refine sxo_lenV rfl rfl rfl rfl rfl rfl rfl ?_
      refine sxo_pure rfl rfl rfl trivial ?_
      refine sxo_pure rfl rfl rfl trivial ?_
      refine sxo_split (t := 28) rfl (fun h28 => ?_) (fun h28 => ?_)
      · refine sxo_pass rfl rfl rfl ?_
        refine sxo_pass rfl rfl rfl ?_
        refine sxo_pass rfl rfl rfl ?_
        refine sxo_pass rfl rfl rfl ?_
        refine sxo_pure rfl rfl rfl trivial ?_
        refine sxo_pure rfl rfl rfl trivial ?_
        refine sxo_pass rfl rfl rfl ?_
        refine sxo_pass rfl rfl rfl ?_
        refine sxo_pass rfl rfl rfl ?_
        refine sxo_pass rfl rfl rfl ?_
        refine sxo_pure rfl rfl rfl trivial ?_
        refine sxo_pure rfl rfl rfl trivial ?_
        refine sxo_pass rfl rfl rfl ?_
        refine sxo_pass rfl rfl rfl ?_
        refine sxo_pass rfl rfl rfl ?_
        refine sxo_pass rfl rfl rfl ?_
        refine sxo_pure rfl rfl rfl trivial ?_
        refine sxo_pure rfl rfl rfl trivial ?_
        refine sxo_pass rfl rfl rfl ?_
        refine sxo_pass rfl rfl rfl ?_
        refine sxo_pass rfl rfl rfl ?_
        refine sxo_pass rfl rfl rfl ?_
        refine sxo_pure rfl rfl rfl trivial ?_
        refine sxo_end ?_
        refine sx_condT rfl ?_
        refine sx_seq ?_
        refine sx_region ?_
        refine sxo_pure rfl rfl rfl trivial ?_
        refine sxo_end ?_
        refine sx_retL hret hro hk (.tmp rfl .nil) ⟨⟨_, rfl⟩, rfl⟩ (by exact .nil)
      refine sxo_pure rfl rfl rfl trivial ?_
      refine sxo_load rfl rfl rfl (by exact .tail .head) rfl rfl rfl rfl ?_
      refine sxo_lenV rfl rfl rfl rfl rfl rfl rfl ?_
      refine sxo_pure rfl rfl rfl trivial ?_
      refine sxo_pure rfl rfl rfl trivial ?_
      refine sxo_pure rfl rfl rfl trivial ?_
      refine sxo_split (t := 34) rfl (fun h34 => ?_) (fun h34 => ?_)
      · refine sxo_pass rfl rfl rfl ?_
        refine sxo_pass rfl rfl rfl ?_
        refine sxo_pass rfl rfl rfl ?_
        refine sxo_pass rfl rfl rfl ?_
        refine sxo_pure rfl rfl rfl trivial ?_
        refine sxo_pure rfl rfl rfl trivial ?_
        refine sxo_pass rfl rfl rfl ?_
        refine sxo_pass rfl rfl rfl ?_
        refine sxo_pass rfl rfl rfl ?_
        refine sxo_pass rfl rfl rfl ?_
        refine sxo_pure rfl rfl rfl trivial ?_
        refine sxo_pure rfl rfl rfl trivial ?_
        refine sxo_pass rfl rfl rfl ?_
        refine sxo_pass rfl rfl rfl ?_
        refine sxo_pass rfl rfl rfl ?_
        refine sxo_pass rfl rfl rfl ?_
        refine sxo_pure rfl rfl rfl trivial ?_
        refine sxo_end ?_
        refine sx_condT rfl ?_
        refine sx_seq ?_
        refine sx_region ?_
        refine sxo_pure rfl rfl rfl trivial ?_
        refine sxo_end ?_
        refine sx_retL hret hro hk (.tmp rfl .nil) ⟨⟨_, rfl⟩, rfl⟩ (by exact .nil)
      refine sxo_pure rfl rfl rfl trivial ?_
      refine sxo_load rfl rfl rfl (by exact .tail .head) rfl rfl rfl rfl ?_
      refine sxo_lenV rfl rfl rfl rfl rfl rfl rfl ?_
      refine sxo_pure rfl rfl rfl trivial ?_
      refine sxo_pure rfl rfl rfl trivial ?_
      refine sxo_pure rfl rfl rfl trivial ?_
      refine sxo_split (t := 40) rfl (fun h40 => ?_) (fun h40 => ?_)
      · refine sxo_pass rfl rfl rfl ?_
        refine sxo_pass rfl rfl rfl ?_
        refine sxo_pass rfl rfl rfl ?_
        refine sxo_pass rfl rfl rfl ?_
        refine sxo_pure rfl rfl rfl trivial ?_
        refine sxo_pure rfl rfl rfl trivial ?_
        refine sxo_pass rfl rfl rfl ?_
        refine sxo_pass rfl rfl rfl ?_
        refine sxo_pass rfl rfl rfl ?_
        refine sxo_pass rfl rfl rfl ?_
        refine sxo_pure rfl rfl rfl trivial ?_
        refine sxo_end ?_
        refine sx_condT rfl ?_
        refine sx_seq ?_
        refine sx_region ?_
        refine sxo_pure rfl rfl rfl trivial ?_
        refine sxo_end ?_
        refine sx_retL hret hro hk (.tmp rfl .nil) ⟨⟨_, rfl⟩, rfl⟩ (by exact .nil)
      refine sxo_pure rfl rfl rfl trivial ?_
      refine sxo_load rfl rfl rfl (by exact .tail .head) rfl rfl rfl rfl ?_
      refine sxo_lenV rfl rfl rfl rfl rfl rfl rfl ?_
      refine sxo_pure rfl rfl rfl trivial ?_
      refine sxo_pure rfl rfl rfl trivial ?_
      refine sxo_pure rfl rfl rfl trivial ?_
      refine sxo_split (t := 46) rfl (fun h46 => ?_) (fun h46 => ?_)
      · refine sxo_pass rfl rfl rfl ?_
        refine sxo_pass rfl rfl rfl ?_
        refine sxo_pass rfl rfl rfl ?_
        refine sxo_pass rfl rfl rfl ?_
        refine sxo_pure rfl rfl rfl trivial ?_
        refine sxo_end ?_
        refine sx_condT rfl ?_
        refine sx_seq ?_
        refine sx_region ?_
        refine sxo_pure rfl rfl rfl trivial ?_
        refine sxo_end ?_
        refine sx_retL hret hro hk (.tmp rfl .nil) ⟨⟨_, rfl⟩, rfl⟩ (by exact .nil)
      refine sxo_pure rfl rfl rfl trivial ?_
      refine sxo_load rfl rfl rfl (by exact .tail .head) rfl rfl rfl rfl ?_
      refine sxo_lenV rfl rfl rfl rfl rfl rfl rfl ?_
      refine sxo_pure rfl rfl rfl trivial ?_
      refine sxo_pure rfl rfl rfl trivial ?_
      refine sxo_end ?_
      refine sx_cond rfl (fun h51 => ?_) (fun h51 => ?_)
      · refine sx_seq ?_
        refine sx_region ?_
        refine sxo_pure rfl rfl rfl trivial ?_
        refine sxo_end ?_
        refine sx_retL hret hro hk (.tmp rfl .nil) ⟨⟨_, rfl⟩, rfl⟩ (by exact .nil)
      refine sx_skip ?_
      refine sx_seq ?_
      refine sx_drawN 8 (by kernel_rfl) [0, 1, 2, 3, 4, 5, 6, 7, 8, 9, 10, 11, 12] [] (by kernel_rfl) ?_
      refine sxo_pure rfl rfl rfl trivial ?_
      refine sxo_pure rfl rfl rfl trivial ?_
      refine sxo_pure rfl rfl rfl trivial ?_
      refine sxo_indexAddr rfl rfl rfl rfl rfl rfl rfl (Reads.beside hv) (by simp only; omega) rfl (fun _ _ => ?_)
      refine sxo_pure rfl rfl rfl trivial ?_
      refine sxo_loadEl (fo := 77) rfl rfl rfl (by exact .head) (Reads.beside hv) rfl (by simp; omega) (fun _ => rfl) rfl rfl (fun z hz => ?_)
      refine sxo_lenV rfl rfl rfl rfl rfl rfl rfl ?_
      refine sxo_wrap rfl rfl rfl rfl rfl rfl ?_
      refine sxo_pure rfl rfl rfl trivial ?_
      refine sxo_load rfl rfl rfl (by exact .tail (.tail .head)) rfl rfl rfl rfl ?_
      refine sxo_lenV rfl rfl rfl rfl rfl rfl rfl ?_
      refine sxo_wrap rfl rfl rfl rfl rfl rfl ?_
      refine sxo_pure rfl rfl rfl trivial ?_
      refine sxo_end ?_
      refine sx_seq ?_
      refine sx_region ?_
      refine sxo_pure rfl rfl rfl trivial ?_
      refine sxo_pure rfl rfl rfl trivial ?_
      refine sxo_end ?_
      refine sx_cond rfl (fun h60 => ?_) (fun h60 => ?_)
      · refine sx_seq ?_
        refine sx_region ?_
        refine sxo_pure rfl rfl rfl trivial ?_
        refine sxo_end ?_
        refine sx_retL hret hro hk (.tmp rfl .nil) ⟨⟨_, rfl⟩, rfl⟩ (by exact .nil)
      refine sx_skip ?_
      refine sx_inBlock ?_
      refine sx_region ?_
      refine sxo_pure rfl rfl rfl trivial ?_
      refine sxo_pure rfl rfl rfl (by omega) ?_
      refine sxo_pure rfl rfl rfl trivial ?_
      refine sxo_end ?_
      refine sx_less (by refine .cons rfl ?_; refine .cons rfl ?_; refine .cons rfl ?_; exact .nil _) (by exact .nil) (ih ((j + 1, _)) (by simp only; omega) (by simp only; omega))
    · refine sx_exit rfl ?_
      refine sx_seq ?_
      refine sx_region ?_
      refine sxo_pure rfl rfl rfl trivial ?_
      refine sxo_end ?_
      refine sx_retL hret hro hk (.tmp rfl .nil) ⟨⟨_, rfl⟩, rfl⟩ (by exact .nil)
  · refine sxo_pass rfl rfl rfl ?_
    refine sxo_pass rfl rfl rfl ?_
    refine sxo_pure rfl rfl rfl trivial ?_
    refine sxo_end ?_
    refine sx_condF rfl ?_
    refine sx_exit rfl ?_
    refine sx_seq ?_
    refine sx_region ?_
    refine sxo_pure rfl rfl rfl trivial ?_
    refine sxo_end ?_
    refine sx_retL hret hro hk (.tmp rfl .nil) ⟨⟨_, rfl⟩, rfl⟩ (by exact .nil)
end Go.SX

namespace Go.SX
open Go.Proofs
attribute [local irreducible] SX SXo
set_option maxRecDepth 20000
set_option maxHeartbeats 4000000
/-- What a step's message says is there to be read. -/
def StpIn (K : Hp) (x : Stp) : Prop := ∃ li lm, VecRd x.m.ids 3 1 encI li K ∧ VecRd x.m.mems 101 4 encM lm K ∧ li.length < 4611686018427387904 ∧ lm.length < 4611686018427387904
theorem StpIn.mono {K K' : Hp} {x : Stp} (h : StpIn K x) (s : Sub K K') : StpIn K' x := by
  obtain ⟨li, lm, h1, h2, h3, h4⟩ := h
  exact ⟨li, lm, h1.mono s, h2.mono s, h3, h4⟩
theorem Quiet_ok (K : Hp) (p : Option Addr) (n c : Nat) (l : List Stp) (hl : l.length < 4611686018427387904) (hv : VecRd ⟨p, n, c⟩ 45 79 encStp l K) (hx : ∀ x ∈ l, StpIn K x) : TR Tryz.prog K 3 [.o (.slice p n c)] []
    fun v r => v = .s (.o (.bool true)) ∧ r = [] := by
  have hn : n = l.length := hv.len
  refine tr_intro Tryz.func3 rfl rfl rfl fun cx hro hk hret => ?_
  refine sx_seq ?_
  refine sx_region ?_
  refine sxo_pure rfl rfl rfl trivial ?_
  refine sxo_end ?_
  refine sx_seq ?_
  refine sx_region ?_
  refine sxo_call0 rfl rfl rfl rfl (by exact .nil) (fun Kc hK hB => awake_ok Kc) rfl rfl ?_ (hH := by rintro v m ⟨rfl, rfl⟩; (exact hh_nil))
  rintro v m ⟨rfl, rfl⟩
  simp only [List.cons_append, List.nil_append, List.append_nil, resV]
  refine sxo_pure rfl rfl rfl trivial ?_
  refine sxo_end ?_
  refine sx_seq ?_
  refine sx_region ?_
  refine sxo_pure rfl rfl rfl trivial ?_
  refine sxo_call0 rfl rfl rfl rfl (by exact .nil) (fun Kc hK hB => much_ok Kc p n c l hl (hv.mono hK)) rfl rfl ?_ (hH := by rintro v m ⟨⟨b, rfl⟩, rfl⟩; (exact hh_nil))
  rintro v m ⟨⟨b, rfl⟩, rfl⟩
  simp only [List.cons_append, List.nil_append, List.append_nil, resV]
  refine sxo_pure rfl rfl rfl trivial ?_
  refine sxo_end ?_
  refine sx_seq ?_
  refine sx_region ?_
  refine sxo_call0 rfl rfl rfl rfl (by exact .nil) (fun Kc hK hB => filesNew_ok Kc 16777216 (by decide)) rfl rfl ?_ (hH := by rintro v m ⟨bd, bm, st, q, rfl, rfl⟩; (exact hh_nil))
  rintro v m ⟨bd, bm, st, q, rfl, rfl⟩
  simp only [List.cons_append, List.nil_append, List.append_nil, resV]
  refine sxo_pure rfl rfl rfl trivial ?_
  refine sxo_pure rfl rfl rfl trivial ?_
  refine sxo_pure rfl rfl rfl trivial ?_
  refine sxo_pure rfl rfl rfl trivial ?_
  refine sxo_pure rfl rfl rfl trivial ?_
  refine sxo_end ?_
  refine sx_seq ?_
  refine sx_seq ?_
  refine sx_region ?_
  refine sxo_pure rfl rfl rfl trivial ?_
  refine sxo_pure rfl rfl rfl trivial ?_
  refine sxo_pure rfl rfl rfl trivial ?_
  refine sxo_pure rfl rfl rfl trivial ?_
  refine sxo_pure rfl rfl rfl trivial ?_
  refine sxo_pure rfl rfl rfl trivial ?_
  refine sxo_pure rfl rfl rfl trivial ?_
  refine sxo_pure rfl rfl rfl trivial ?_
  refine sxo_eqPtr rfl rfl rfl rfl rfl rfl rfl rfl ?_
  refine sxo_pure rfl rfl rfl trivial ?_
  refine sxo_pure rfl rfl rfl trivial ?_
  refine sxo_pure rfl rfl rfl trivial ?_
  refine sxo_pure rfl rfl rfl trivial ?_
  refine sxo_end ?_
  refine sx_cond rfl (fun h1 => ?_) (fun h1 => ?_)
  · refine sx_seq ?_
    refine sx_region ?_
    refine sxo_pure rfl rfl rfl trivial ?_
    refine sxo_pure rfl rfl rfl trivial ?_
    refine sxo_pure rfl rfl rfl trivial ?_
    refine sxo_pure rfl rfl rfl trivial ?_
    refine sxo_pure rfl rfl rfl trivial ?_
    refine sxo_pure rfl rfl rfl trivial ?_
    refine sxo_end ?_
    refine sx_retL hret hro hk (.tmp rfl .nil) ⟨rfl, rfl⟩ (by exact .nil)
  refine sx_skip ?_
  refine sx_seq ?_
  refine sx_region ?_
  refine sxo_pure rfl rfl rfl trivial ?_
  refine sxo_call0 rfl rfl rfl rfl (by exact .nil) (fun Kc hK hB => set_ok Kc) rfl rfl ?_ (hH := by rintro v m ⟨rfl, rfl⟩; (exact hh_nil))
  rintro v m ⟨rfl, rfl⟩
  simp only [List.cons_append, List.nil_append, List.append_nil, resV]
  skip
  refine sxo_call0 rfl rfl rfl rfl (by (apply Take.cons; focus exact .head); (apply Take.cons; focus exact .head); (apply Take.cons; focus exact .head); exact .nil) (fun Kc hK hB => nodeOpen_ok Kc bd 16777216 bm st [q] (by decide) (by simp)) rfl rfl ?_ (hH := by rintro v m ⟨bn, bs, bt, bv, bb, bw, sw, gv, rfl, rfl⟩; (exact hh_nil))
  rintro v m ⟨bn, bs, bt, bv, bb, bw, sw, gv, rfl, rfl⟩
  simp only [List.cons_append, List.nil_append, List.append_nil, resV]
  refine sxo_pure rfl rfl rfl trivial ?_
  refine sxo_pure rfl rfl rfl trivial ?_
  refine sxo_pure rfl rfl rfl trivial ?_
  refine sxo_pure rfl rfl rfl trivial ?_
  refine sxo_pure rfl rfl rfl trivial ?_
  refine sxo_end ?_
  refine sx_seq ?_
  refine sx_seq ?_
  refine sx_region ?_
  refine sxo_pure rfl rfl rfl trivial ?_
  refine sxo_pure rfl rfl rfl trivial ?_
  refine sxo_pure rfl rfl rfl trivial ?_
  refine sxo_pure rfl rfl rfl trivial ?_
  refine sxo_eqPtr rfl rfl rfl rfl rfl rfl rfl rfl ?_
  refine sxo_pure rfl rfl rfl trivial ?_
  refine sxo_end ?_
  refine sx_condF rfl ?_
  refine sx_skip ?_
  refine sx_seq ?_
  refine sx_seq ?_
  refine sx_region ?_
  refine sxo_pure rfl rfl rfl trivial ?_
  refine sxo_end ?_
  refine sx_block ?_
  refine sx_less (by refine .cons rfl ?_; refine .cons rfl ?_; refine .cons rfl ?_; exact .nil _) (by (apply Take.cons; focus exact .head); (apply Take.cons; focus exact .tail (.tail (.tail .head))); exact .all) (sx_loopI (γ := Nat × List (Int × Member) × List (Int × Giver)) (fun x => x.1 ≤ l.length ∧ VOk x.2.1 ∧ x.2.1.length ≤ 5 ∧ x.2.2.length ≤ 5) (fun x => l.length - x.1) (fun x => [(0, .s (.o (.slice p n c))), (7, .s (evPtr bn)), (8, .s (.o (.int .i64 x.1)))]) (fun x => [.blk bn 73 (nodeC bs bt bv bb bw nilS sw gv), bookO bb, diskO bs, tabO bt, viewO bv x.2.1, wheelO bw, .map sw ekDig evPO [], .map gv ekInt evGiver x.2.2]) ((0, [], [])) (⟨by simp, VOk.nil, by simp, by simp⟩) ?_)
  rintro ⟨j, m, g⟩ ⟨hj, hvm, hm, hg⟩ ih
  simp only at hj hvm hm hg
  refine sx_seq ?_
  refine sx_seq ?_
  refine sx_region ?_
  refine sxo_pure rfl rfl rfl trivial ?_
  refine sxo_pure rfl rfl rfl trivial ?_
  refine sxo_lenV rfl rfl rfl rfl rfl rfl rfl ?_
  refine sxo_pure rfl rfl rfl trivial ?_
  refine sxo_pure rfl rfl rfl trivial ?_
  refine sxo_split (t := 53) rfl (fun h1 => ?_) (fun h1 => ?_)
  · simp at h1
    refine sxo_pure rfl rfl rfl trivial ?_
    refine sxo_pure rfl rfl rfl trivial ?_
    refine sxo_pure rfl rfl rfl trivial ?_
    refine sxo_end ?_
    refine sx_cond rfl (fun h2 => ?_) (fun h2 => ?_)
    · refine sx_skip ?_
      refine sx_seq ?_
      refine sx_block ?_
      refine sx_seq ?_
      refine sx_region ?_
      refine sxo_pure rfl rfl rfl trivial ?_
      refine sxo_pure rfl rfl rfl trivial ?_
      refine sxo_indexAddr rfl rfl rfl rfl rfl rfl rfl (Reads.beside hv) (by simp only; omega) rfl (fun _ _ => ?_)
      refine sxo_loadEl0 rfl rfl rfl (by exact .head) (Reads.beside hv) rfl (by simp only; omega) (fun _ => rfl) rfl rfl (fun x hxj => ?_)
      refine sxo_alloc rfl rfl rfl rfl rfl rfl (fun _ => ?_)
      refine sxo_store rfl rfl rfl rfl (by exact .head) rfl rfl rfl rfl rfl ?_
      refine sxo_end ?_
      refine sx_seq ?_
      refine sx_join (γ := { x : List (Int × Member) × List (Int × Giver) // VOk x.1 ∧ x.1.length ≤ 5 ∧ x.2.length ≤ 5 }) (fun _ => [(0, .s (.o (.slice p n c))), (7, .s (evPtr bn)), (8, .s (.o (.int .i64 j)))]) (fun x => [.blk bn 73 (nodeC bs bt bv bb bw nilS sw gv), bookO bb, diskO bs, tabO bt, viewO bv x.1.1, wheelO bw, .map sw ekDig evPO [], .map gv ekInt evGiver x.1.2]) (fun J => ?_) (fun y => ?_)
      · refine sx_seq ?_
        refine sx_region ?_
        refine sxo_pure rfl rfl rfl trivial ?_
        refine sxo_load rfl rfl rfl (by exact .head) rfl rfl rfl rfl ?_
        refine sxo_end ?_
        refine sx_block ?_
        refine sx_seq ?_
        refine sx_region ?_
        refine sxo_pure rfl rfl rfl trivial ?_
        refine sxo_pure rfl rfl rfl trivial ?_
        refine sxo_end ?_
        refine sx_cond rfl (fun h3 => ?_) (fun h3 => ?_)
        · refine sx_seq ?_
          refine sx_region ?_
          refine sxo_pure rfl rfl rfl trivial ?_
          refine sxo_pure rfl rfl rfl trivial ?_
          refine sxo_load rfl rfl rfl (by exact .head) rfl rfl rfl rfl ?_
          refine sxo_pure rfl rfl rfl trivial ?_
          refine sxo_load rfl rfl rfl (by exact .head) rfl rfl rfl rfl ?_
          refine sxo_call0 rfl rfl rfl rfl (by (apply Take.cons; focus exact .tail (.tail .head)); (apply Take.cons; focus exact .tail (.tail .head)); (apply Take.cons; focus exact .tail (.tail (.tail (.tail .head)))); (apply Take.cons; focus exact .tail (.tail (.tail (.tail .head)))); (apply Take.cons; focus exact .tail (.tail (.tail (.tail (.tail .head))))); exact .nil) (fun Kc hK hB => TickQ_ok Kc bn bs bt bv bb bw sw gv m hm hvm g hg x.now x.seed) rfl rfl ?_ (hH := by rintro v m ⟨m', g', p1, n1, c1, e, hv', hm', hg', hq, rfl, rfl⟩; (exact hh_nil))
          rintro v m ⟨m', g', p1, n1, c1, e, hv', hm', hg', hq, rfl, rfl⟩
          simp only [List.cons_append, List.nil_append, List.append_nil, resV]
          refine sxo_pure rfl rfl rfl trivial ?_
          refine sxo_pure rfl rfl rfl trivial ?_
          refine sxo_pure rfl rfl rfl trivial ?_
          refine sxo_pure rfl rfl rfl trivial ?_
          refine sxo_pure rfl rfl rfl trivial ?_
          refine sxo_end ?_
          refine sx_seq ?_
          refine sx_region ?_
          refine sxo_pure rfl rfl rfl trivial ?_
          refine sxo_pure rfl rfl rfl trivial ?_
          refine sxo_pure rfl rfl rfl trivial ?_
          refine sxo_split (t := 78) rfl (fun h4 => ?_) (fun h4 => ?_)
          · refine sxo_pure rfl rfl rfl trivial ?_
            refine sxo_call0 rfl rfl rfl rfl (by (apply Take.cons; focus exact .head); (apply Take.cons; focus exact .tail .head); exact .nil) (fun Kc hK hB => Members_q Kc bn bs bt bv bb bw sw gv m' hm') rfl rfl ?_ (hH := by rintro v m ⟨p2, n2, c2, lm, hlm, rfl, rfl⟩; (exact hh_nil))
            rintro v m ⟨p2, n2, c2, lm, hlm, rfl, rfl⟩
            simp only [List.cons_append, List.nil_append, List.append_nil, resV]
            refine sxo_len rfl rfl rfl rfl rfl (by exact Reads.own (by exact .tail (.tail .head))) rfl rfl ?_
            refine sxo_pure rfl rfl rfl trivial ?_
            refine sxo_pure rfl rfl rfl trivial ?_
            refine sxo_pure rfl rfl rfl trivial ?_
            refine sxo_split (t := 84) rfl (fun h5 => ?_) (fun h5 => ?_)
            · have h0 : n1 = 0 := hq (by simpa using h4) (by simp at h5; rw [← hlm]; simp [h5])
              subst h0
              refine sxo_pure rfl rfl rfl trivial ?_
              refine sxo_lenV rfl rfl rfl rfl rfl rfl rfl ?_
              refine sxo_pure rfl rfl rfl trivial ?_
              refine sxo_pure rfl rfl rfl trivial ?_
              refine sxo_end ?_
              refine sx_condF rfl ?_
              refine sx_skip ?_
              refine sx_inBlock ?_
              exact sx_less (by refine .cons rfl ?_; refine .cons rfl ?_; refine .cons rfl ?_; exact .nil _) (by (apply Take.cons; focus exact .head); (apply Take.cons; focus exact .tail (.tail .head)); (apply Take.cons; focus exact .tail (.tail (.tail (.tail (.tail (.tail .head)))))); (apply Take.cons; focus exact .tail (.tail (.tail (.tail (.tail (.tail .head)))))); (apply Take.cons; focus exact .head); (apply Take.cons; focus exact .tail .head); (apply Take.cons; focus exact .tail (.tail (.tail (.tail .head)))); (apply Take.cons; focus exact .tail .head); exact .nil) (J ⟨(m', g'), hv', hm', hg'⟩)
            · refine sxo_pass rfl rfl rfl ?_
              refine sxo_pass rfl rfl rfl ?_
              refine sxo_pass rfl rfl rfl ?_
              refine sxo_pure rfl rfl rfl trivial ?_
              refine sxo_end ?_
              refine sx_condF rfl ?_
              refine sx_skip ?_
              refine sx_inBlock ?_
              exact sx_less (by refine .cons rfl ?_; refine .cons rfl ?_; refine .cons rfl ?_; exact .nil _) (by (apply Take.cons; focus exact .head); (apply Take.cons; focus exact .tail (.tail .head)); (apply Take.cons; focus exact .tail (.tail (.tail (.tail (.tail (.tail .head)))))); (apply Take.cons; focus exact .tail (.tail (.tail (.tail (.tail (.tail .head)))))); (apply Take.cons; focus exact .head); (apply Take.cons; focus exact .tail .head); (apply Take.cons; focus exact .tail (.tail (.tail (.tail .head)))); (apply Take.cons; focus exact .tail .head); exact .nil) (J ⟨(m', g'), hv', hm', hg'⟩)
          · refine sxo_pass rfl rfl rfl ?_
            refine sxo_pass rfl rfl rfl ?_
            refine sxo_pass rfl rfl rfl ?_
            refine sxo_pass rfl rfl rfl ?_
            refine sxo_pure rfl rfl rfl trivial ?_
            refine sxo_pure rfl rfl rfl trivial ?_
            refine sxo_pass rfl rfl rfl ?_
            refine sxo_pass rfl rfl rfl ?_
            refine sxo_pass rfl rfl rfl ?_
            refine sxo_pure rfl rfl rfl trivial ?_
            refine sxo_end ?_
            refine sx_condF rfl ?_
            refine sx_skip ?_
            refine sx_inBlock ?_
            exact sx_less (by refine .cons rfl ?_; refine .cons rfl ?_; refine .cons rfl ?_; exact .nil _) (by (apply Take.cons; focus exact .head); (apply Take.cons; focus exact .head); (apply Take.cons; focus exact .tail (.tail (.tail (.tail (.tail .head))))); (apply Take.cons; focus exact .tail (.tail (.tail (.tail (.tail .head))))); (apply Take.cons; focus exact .head); (apply Take.cons; focus exact .head); (apply Take.cons; focus exact .tail (.tail (.tail .head))); (apply Take.cons; focus exact .head); exact .nil) (J ⟨(m', g'), hv', hm', hg'⟩)
        · refine sx_seq ?_
          refine sx_region ?_
          refine sxo_pure rfl rfl rfl trivial ?_
          refine sxo_pure rfl rfl rfl trivial ?_
          refine sxo_end ?_
          refine sx_cond rfl (fun h4 => ?_) (fun h4 => ?_)
          · obtain ⟨li, lm, hli, hlm, hil, hml⟩ := hx x (List.mem_of_getElem? hxj)
            refine sx_region ?_
            refine sxo_pure rfl rfl rfl trivial ?_
            refine sxo_pure rfl rfl rfl trivial ?_
            refine sxo_load rfl rfl rfl (by exact .head) rfl rfl rfl rfl ?_
            refine sxo_pure rfl rfl rfl trivial ?_
            refine sxo_load rfl rfl rfl (by exact .head) rfl rfl rfl rfl ?_
            refine sxo_pure rfl rfl rfl trivial ?_
            refine sxo_load rfl rfl rfl (by exact .head) rfl rfl rfl rfl ?_
            refine sxo_call0 rfl rfl rfl rfl (by (apply Take.cons; focus exact .tail (.tail .head)); (apply Take.cons; focus exact .tail (.tail .head)); (apply Take.cons; focus exact .tail (.tail .head)); (apply Take.cons; focus exact .tail (.tail .head)); (apply Take.cons; focus exact .tail (.tail .head)); (apply Take.cons; focus exact .tail (.tail (.tail .head))); (apply Take.cons; focus exact .tail (.tail (.tail .head))); exact .nil) (fun Kc hK hB => TakeQ_ok Kc bn bs bt bv bb bw sw gv x.from_ x.now x.m li lm (hli.mono hK) (hlm.mono hK) hil hml m hm hvm g hg) rfl rfl ?_ (hH := by rintro v m ⟨m', g', p1, n1, c1, e, hv', hm', hg', rfl, rfl⟩; (exact hh_nil))
            rintro v m ⟨m', g', p1, n1, c1, e, hv', hm', hg', rfl, rfl⟩
            simp only [List.cons_append, List.nil_append, List.append_nil, resV]
            refine sxo_end ?_
            refine sx_inBlock ?_
            exact sx_less (by refine .cons rfl ?_; refine .cons rfl ?_; refine .cons rfl ?_; exact .nil _) (by (apply Take.cons; focus exact .head); (apply Take.cons; focus exact .head); (apply Take.cons; focus exact .head); (apply Take.cons; focus exact .head); (apply Take.cons; focus exact .head); (apply Take.cons; focus exact .tail (.tail (.tail (.tail .head)))); (apply Take.cons; focus exact .head); (apply Take.cons; focus exact .head); exact .nil) (J ⟨(m', g'), hv', hm', hg'⟩)
          · refine sx_skip ?_
            refine sx_inBlock ?_
            exact sx_less (by refine .cons rfl ?_; refine .cons rfl ?_; refine .cons rfl ?_; exact .nil _) (by (apply Take.cons; focus exact .tail (.tail .head)); (apply Take.cons; focus exact .tail (.tail .head)); (apply Take.cons; focus exact .tail (.tail .head)); (apply Take.cons; focus exact .tail (.tail .head)); (apply Take.cons; focus exact .tail (.tail .head)); (apply Take.cons; focus exact .tail (.tail .head)); (apply Take.cons; focus exact .tail (.tail .head)); (apply Take.cons; focus exact .tail (.tail .head)); exact .nil) (J ⟨(m, g), hvm, hm, hg⟩)
      · obtain ⟨⟨m', g'⟩, hv', hm', hg'⟩ := y
        refine sx_seq ?_
        refine sx_region ?_
        refine sxo_pure rfl rfl rfl trivial ?_
        refine sxo_call0 rfl rfl rfl rfl (by (apply Take.cons; focus exact .head); (apply Take.cons; focus exact .tail .head); exact .nil) (fun Kc hK hB => Images_q Kc bn bs bt bv bb bw sw gv) rfl rfl ?_ (hH := by rintro v m ⟨rfl, rfl⟩; (exact hh_nil))
        rintro v m ⟨rfl, rfl⟩
        simp only [List.cons_append, List.nil_append, List.append_nil, resV]
        refine sxo_lenV rfl rfl rfl rfl rfl rfl rfl ?_
        refine sxo_pure rfl rfl rfl trivial ?_
        refine sxo_pure rfl rfl rfl trivial ?_
        refine sxo_pure rfl rfl rfl trivial ?_
        refine sxo_call0 rfl rfl rfl rfl (by (apply Take.cons; focus exact .head); (apply Take.cons; focus exact .tail (.tail .head)); exact .nil) (fun Kc hK hB => Taken_q Kc bn bs bt bv bb bw sw gv) rfl rfl ?_ (hH := by rintro v m ⟨rfl, rfl⟩; (exact hh_nil))
        rintro v m ⟨rfl, rfl⟩
        simp only [List.cons_append, List.nil_append, List.append_nil, resV]
        refine sxo_lenV rfl rfl rfl rfl rfl rfl rfl ?_
        refine sxo_pure rfl rfl rfl trivial ?_
        refine sxo_pure rfl rfl rfl trivial ?_
        refine sxo_pure rfl rfl rfl trivial ?_
        refine sxo_pure rfl rfl rfl trivial ?_
        refine sxo_call0 rfl rfl rfl rfl (by (apply Take.cons; focus exact .head); exact .nil) (fun Kc hK hB => Broken_q Kc bn bs bt bv bb bw sw gv) rfl rfl ?_ (hH := by rintro v m ⟨rfl, rfl⟩; (exact hh_nil))
        rintro v m ⟨rfl, rfl⟩
        simp only [List.cons_append, List.nil_append, List.append_nil, resV]
        refine sxo_pure rfl rfl rfl trivial ?_
        refine sxo_end ?_
        refine sx_condF rfl ?_
        refine sx_skip ?_
        refine sx_inBlock ?_
        refine sx_region ?_
        refine sxo_pure rfl rfl rfl trivial ?_
        refine sxo_pure rfl rfl rfl (by omega) ?_
        refine sxo_pure rfl rfl rfl trivial ?_
        refine sxo_end ?_
        refine sx_less (by refine .cons rfl ?_; refine .cons rfl ?_; refine .cons rfl ?_; exact .nil _) (by (apply Take.cons; focus exact .head); (apply Take.cons; focus exact .tail (.tail .head)); (apply Take.cons; focus exact .tail .head); (apply Take.cons; focus exact .head); (apply Take.cons; focus exact .head); (apply Take.cons; focus exact .head); (apply Take.cons; focus exact .head); (apply Take.cons; focus exact .head); exact .nil) (ih ((j + 1, m', g')) (⟨by simp only; omega, hv', hm', hg'⟩) (by simp only; omega))
    · refine sx_exit rfl ?_
      refine sx_seq ?_
      refine sx_region ?_
      refine sxo_pure rfl rfl rfl trivial ?_
      refine sxo_end ?_
      refine sx_retL hret hro hk (.tmp rfl .nil) ⟨rfl, rfl⟩ (by exact .nil)
  · refine sxo_pass rfl rfl rfl ?_
    refine sxo_pass rfl rfl rfl ?_
    refine sxo_pure rfl rfl rfl trivial ?_
    refine sxo_end ?_
    refine sx_condF rfl ?_
    refine sx_exit rfl ?_
    refine sx_seq ?_
    refine sx_region ?_
    refine sxo_pure rfl rfl rfl trivial ?_
    refine sxo_end ?_
    refine sx_retL hret hro hk (.tmp rfl .nil) ⟨rfl, rfl⟩ (by exact .nil)
end Go.SX

namespace Go.SX
section
variable {H : Type} {enc : TypeId × Value → H} {P : Program} {w : World}
/-- The cells read as 'd', and each slice within has room in a process. -/
def Rdt (enc : TypeId × Value → H) (P : Program) (w : World) (t : TypeId) (cs : List Value) (d : DataW H) : Prop :=
  (∃ fuel ps, DataW.trod enc P w 0 (fun _ => true) true fuel t cs = some (d, ps)) ∧ ∀ n ∈ DataW.weights P t d, n ≤ reachBytes
theorem Rdt.int {t : TypeId} {k : IntKind} {cs : List Value} {d : DataW H} (h : Rdt enc P w t cs d) (hu : P.underlying t = some (.int k)) : ∃ n, cs = [.int k n] ∧ (Lit.int k n).wf = true := by
  obtain ⟨⟨fuel, ps, h⟩, _⟩ := h
  obtain ⟨n, h1, _, h2⟩ := DataW.trod_int hu h
  exact ⟨n, h1, h2⟩
theorem Rdt.bool {t : TypeId} {cs : List Value} {d : DataW H} (h : Rdt enc P w t cs d) (hu : P.underlying t = some .bool) : ∃ b, cs = [.bool b] := by
  obtain ⟨⟨fuel, ps, h⟩, _⟩ := h
  obtain ⟨b, h1, _⟩ := DataW.trod_bool hu h
  exact ⟨b, h1⟩
theorem weightsEach_mem {x : Nat} : ∀ {ts : List TypeId} {ds : List (DataW H)} {i : Nat} {t : TypeId} {d : DataW H}, ts[i]? = some t → ds[i]? = some d → x ∈ DataW.weights P t d → x ∈ DataW.weightsEach P ts ds
  | [], _, _, _, _, h, _, _ => by simp at h
  | _ :: _, [], _, _, _, _, h, _ => by simp at h
  | t0 :: ts, d0 :: ds, 0, t, d, h1, h2, h3 => by
    simp only [List.getElem?_cons_zero, Option.some.injEq] at h1 h2
    subst h1; subst h2
    rw [DataW.weightsEach]; exact List.mem_append_left _ h3
  | t0 :: ts, d0 :: ds, i + 1, t, d, h1, h2, h3 => by
    rw [DataW.weightsEach]
    exact List.mem_append_right _ (weightsEach_mem (by simpa using h1) (by simpa using h2) h3)
theorem weightsAll_mem {x : Nat} {e : TypeId} : ∀ {ds : List (DataW H)} {d : DataW H}, d ∈ ds → x ∈ DataW.weights P e d → x ∈ DataW.weightsAll P e ds
  | [], _, h, _ => by simp at h
  | d0 :: ds, d, h1, h3 => by
    rw [DataW.weightsAll]
    rcases List.mem_cons.1 h1 with rfl | h1
    · exact List.mem_append_left _ h3
    · exact List.mem_append_right _ (weightsAll_mem h1 h3)
/-- A struct's fields. -/
theorem Rdt.struct {t : TypeId} {fs : Array Field} {cs : List Value} {d : DataW H} (h : Rdt enc P w t cs d) (hu : P.underlying t = some (.struct fs)) :
    cs.length = P.cellsOf t ∧ ∀ (i : Nat) (f : Field), fs[i]? = some f → ∃ d', Rdt enc P w f.type ((cs.drop f.offset).take (P.cellsOf f.type)) d' := by
  obtain ⟨⟨fuel, ps, h⟩, hw⟩ := h
  obtain ⟨xs, n, _, hx, hl, hxs, hf⟩ := DataW.trod_struct hu h
  refine ⟨hl, fun i f hi => ?_⟩
  have hlt : i < xs.length := by rw [hxs]; exact (Array.getElem?_eq_some_iff.1 hi).1
  have h1 := hf i f hi
  rw [List.getElem?_eq_getElem hlt] at h1
  refine ⟨xs[i].1, ⟨n, xs[i].2, h1⟩, fun m hm => hw m ?_⟩
  have hd : d = .agg (xs.map (·.1)) := congrArg Prod.fst hx
  subst hd
  rw [DataW.weights, hu]
  exact weightsEach_mem (i := i) (t := f.type) (d := xs[i].1) (by simp [hi]) (by simp [List.getElem?_eq_getElem hlt]) hm
/-- A hash. -/
theorem Rdt.dig {t e : TypeId} {cs : List Value} {d : DataW H} (h : Rdt enc P w t cs d) (hu : P.underlying t = some (.array 32 e)) (he : P.underlying e = some (.int .u8)) (hsz : P.cellsOf e = 1) (ht : P.cellsOf t = 32) : ∃ D : Dig, cs = D.vals := by
  obtain ⟨⟨fuel, ps, h⟩, _⟩ := h
  obtain ⟨xs, m, _, _, hl, hxs, hf⟩ := DataW.trod_array hu h
  rw [ht] at hl
  have key : ∀ i (hi : i < cs.length), ∃ u : UInt8, cs[i] = .int .u8 u.toNat := by
    intro i hi
    have h1 := hf i (by omega)
    rw [List.getElem?_eq_getElem (by omega)] at h1
    obtain ⟨n, h2, _, h3⟩ := DataW.trod_int he h1
    rw [hsz, Nat.mul_one] at h2
    have h4 : cs[i]? = some (.int .u8 n) := by
      have := congrArg (fun l => l[0]?) h2
      simpa [List.getElem?_take, List.getElem?_drop] using this
    rw [List.getElem?_eq_getElem hi] at h4
    have h5 : 0 ≤ n ∧ n ≤ 255 := by
      simp [Lit.wf, IntKind.min, IntKind.max, IntKind.signed, IntKind.bits] at h3
      omega
    refine ⟨UInt8.ofNat n.toNat, ?_⟩
    rw [Option.some.inj h4, UInt8.toNat_ofNat']
    congr 1; omega
  let f : Value → UInt8 := fun v => match v with
    | .int _ n => UInt8.ofNat n.toNat
    | _ => 0
  refine ⟨⟨cs.map f, by simp [hl]⟩, ?_⟩
  apply List.ext_getElem
  · simp [Dig.vals]
  · intro i h1 h2
    obtain ⟨u, hu⟩ := key i h1
    simp [Dig.vals, hu, f]
theorem cells?_spec {base : Nat} {a : Addr} {n : Nat} {cs : List Value} (h : w.cells? base a n = some cs) : cs.length = n ∧ ∀ j, j < n → w.cell? (a.add j) = cs[j]? := by
  unfold World.cells? at h
  split at h
  · refine ⟨by simpa using mapM_some_length h, fun j hj => mapM_some_get h j j (by simp [hj])⟩
  · cases h
theorem cell?_spec {a : Addr} {v : Value} (h : w.cell? a = some v) : a.spot = none ∧ ∃ cs T fz, vw w a.block = some (.cells cs T fz) ∧ cs[a.off]? = some v := by
  unfold World.cell? at h
  split at h
  · rename_i c T fz hb
    split at h
    · cases h
    · rename_i hs
      exact ⟨by simpa using hs, c, T, fz, hb, h⟩
  · cases h
/-- A slice. -/
theorem Rdt.slice {t e : TypeId} {cs : List Value} {d : DataW H} (h : Rdt enc P w t cs d) (hu : P.underlying t = some (.slice e)) {α : Type} {wd : Nat} (T : TypeId) (en : α → List Ch) (Pr : α → Prop) (hsz : P.cellsOf e = wd) (hwd : 0 < wd) (hby : 0 < P.bytesOf e)
    (hel : ∀ cs d, Rdt enc P w e cs d → ∃ x : α, cs = flat (en x) ∧ Pr x) :
    ∃ (s : Sl) (l : List α), cs = [s.v] ∧ VecRd s T wd en l (vw w) ∧ l.length ≤ reachBytes ∧ ∀ x ∈ l, Pr x := by
  obtain ⟨⟨fuel, ps, h⟩, hw⟩ := h
  rcases DataW.trod_slice hu h with ⟨h1, _⟩ | ⟨a, len, cap, elems, rest, n, _, h1, h2, _, h3, _, h4, h5, h6, _⟩
  · exact ⟨⟨none, 0, 0⟩, [], h1, .inl ⟨rfl, rfl⟩, by simp, by simp⟩
  · obtain ⟨h7, h8⟩ := h6 rfl
    have hd : d = .slice (elems.map (·.1)) (rest.map (·.1)) := congrArg Prod.fst h2
    subst hd
    rw [DataW.weights, hu] at hw
    simp only [List.mem_cons, List.mem_append, List.length_map] at hw
    have hlen : len ≤ reachBytes := by
      have h9 := hw _ (.inl rfl)
      rw [h4] at h9
      have : len ≤ (len + rest.length) * P.bytesOf e := Nat.le_trans (Nat.le_add_right _ _) (Nat.le_mul_of_pos_right _ hby)
      omega
    have hex : ∀ i (hi : i < elems.length), ∃ x : α, w.cells? 0 (a.add (i * wd)) wd = some (flat (en x)) ∧ Pr x := by
      intro i hi
      have h9 := h5 i (by omega)
      rw [List.getElem?_eq_getElem hi, hsz, Option.bind_eq_some_iff] at h9
      obtain ⟨c, h10, h11⟩ := h9
      obtain ⟨x, rfl, hp⟩ := hel c elems[i].1 ⟨⟨n, elems[i].2, h11⟩, fun m hm => hw m (.inr (.inl (weightsAll_mem (List.mem_map.2 ⟨elems[i], List.getElem_mem hi, rfl⟩) hm)))⟩
      exact ⟨x, h10, hp⟩
    refine ⟨⟨some a, len, cap⟩, List.ofFn (fun i : Fin elems.length => (hex i.1 i.2).choose), h1, ?_, by simp only [List.length_ofFn]; omega, ?_⟩
    · by_cases h0 : len = 0
      · exact .inl ⟨h0, by apply List.eq_nil_of_length_eq_zero; rw [List.length_ofFn]; omega⟩
      · have cellAt : ∀ i, i < cap → ∀ j, j < wd → ∃ v, w.cell? ((a.add (i * wd)).add j) = some v := by
          intro i hi j hj
          have : ∃ c, w.cells? 0 (a.add (i * wd)) wd = some c := by
            by_cases hil : i < len
            · have h9 := h5 i hil
              rw [List.getElem?_eq_getElem (by omega), hsz, Option.bind_eq_some_iff] at h9
              obtain ⟨c, h10, _⟩ := h9; exact ⟨c, h10⟩
            · have h9 := h8 (i - len) (by omega)
              rw [show len + (i - len) = i by omega, List.getElem?_eq_getElem (by omega), hsz, Option.bind_eq_some_iff] at h9
              obtain ⟨c, h10, _⟩ := h9; exact ⟨c, h10⟩
          obtain ⟨c, hc⟩ := this
          obtain ⟨hcl, hcj⟩ := cells?_spec hc
          exact ⟨c[j]'(by omega), by rw [hcj j hj, List.getElem?_eq_getElem (by omega)]⟩
        obtain ⟨v0, hv0⟩ := cellAt 0 (by omega) 0 hwd
        obtain ⟨hs0, X, TT, fz, hb, _⟩ := cell?_spec hv0
        have hsp : a.spot = none := by simpa [Addr.add] using hs0
        obtain ⟨ab, ao, asp⟩ := a
        simp only at hsp
        subst hsp
        have hbk : vw w ab = some (.cells X TT fz) := by simpa [Addr.add_plain] using hb
        have at_ : ∀ i j v, w.cell? (((⟨ab, ao, none⟩ : Addr).add (i * wd)).add j) = some v → X[ao + i * wd + j]? = some v := by
          intro i j v hv
          obtain ⟨_, X', T', fz', hb', hx'⟩ := cell?_spec hv
          rw [Addr.add_plain, Addr.add_plain] at hb' hx'
          simp only at hb' hx'
          rw [hbk] at hb'
          cases hb'
          exact hx'
        refine .inr ⟨one ab (.cells X T (0, 0)), fun b c T0 hbc => ?_, .inr ⟨ab, ao, X, rfl, by simp; omega, h3, one_self _ _, ?_, ?_, ?_⟩⟩
        · obtain ⟨rfl, e⟩ := one_some hbc
          cases e
          exact ⟨TT, fz, hbk⟩
        · obtain ⟨v, hv⟩ := cellAt (cap - 1) (by omega) (wd - 1) (by omega)
          have h9 := at_ _ _ _ hv
          have h10 := (Array.getElem?_eq_some_iff.1 h9).1
          have : (cap - 1) * wd + wd = cap * wd := by
            rw [← Nat.succ_mul]; congr 1; omega
          simp only; omega
        · intro x hx
          obtain ⟨i, rfl⟩ := List.mem_ofFn.1 hx
          have := (cells?_spec (hex i.1 i.2).choose_spec.1).1
          rw [← flat_length]; exact this
        · intro i x hx j v hv
          rw [List.getElem?_ofFn] at hx
          split at hx
          · rename_i hi
            cases hx
            have h9 := cells?_spec (hex i hi).choose_spec.1
            have hj : j < wd := by rw [← h9.1]; exact (List.getElem?_eq_some_iff.1 hv).1
            exact at_ i j v (by rw [h9.2 j hj]; exact hv)
          · cases hx
    · intro x hx
      obtain ⟨i, rfl⟩ := List.mem_ofFn.1 hx
      exact (hex i.1 i.2).choose_spec.2
/-- Cells, cut. -/
theorem cut {cs : List Value} (o n : Nat) : cs.drop o = (cs.drop o).take n ++ cs.drop (o + n) := by
  rw [← List.drop_drop, List.take_append_drop]
end
end Go.SX
