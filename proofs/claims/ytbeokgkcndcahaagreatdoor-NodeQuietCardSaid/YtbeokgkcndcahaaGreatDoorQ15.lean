/-
  choke: SortFunc, Choose, Round, May.
  choke: the wheel.
  files: a disk whose power is on and that follows no plan.
  files: names that may be, what a change meets, finding, changing.
  files: changes of names.
-/
import Derived.Test.YtbeokgkcndcahaaGreatDoorQ14
set_option linter.all false
namespace Go.SX
open Go.Proofs
attribute [local irreducible] SX SXo
theorem PdqRate_ok (K : Hp) (p : Option Addr) (n c : Nat) (l : List Rate) (lim : Int) (hl : l.length ≤ 12) : TR Tryz.prog K 344 [.o (.slice p n c), .o (.int .i64 0), .o (.int .i64 l.length), .o (.int .i64 lim), .o (.func (.func 256) #[] #[])] [.vec ⟨p, n, c⟩ 163 3 encR l]
    fun _ m => ∃ l' : List Rate, l'.length = l.length ∧ m = [.vec ⟨p, n, c⟩ 163 3 encR l'] := by
  refine tr_intro Tryz.func344 rfl rfl rfl fun cx hro hk hret => ?_
  refine sx_seq ?_
  refine sx_region ?_
  refine sxo_pure rfl rfl rfl trivial ?_
  refine sxo_end ?_
  refine sx_seq ?_
  refine sx_region ?_
  refine sxo_pure rfl rfl rfl trivial ?_
  refine sxo_end ?_
  refine sx_block ?_
  refine sx_less (by refine .cons rfl ?_; refine .cons rfl ?_; refine .cons rfl ?_; refine .cons rfl ?_; exact .nil _) (by (apply Take.cons; focus exact .head); exact .nil) (sx_loopI (γ := Unit) (fun _ => True) (fun _ => 0) (fun _ => [(0, .s (.o (.slice p n c))), (1, .s (.o (.int .i64 0))), (2, .s (.o (.int .i64 l.length))), (4, .s (.o (.func (.func 256) #[] #[])))]) (fun _ => [.vec ⟨p, n, c⟩ 163 3 encR l]) (()) (trivial) ?_)
  rintro _ _ _
  refine sx_block ?_
  refine sx_seq ?_
  refine sx_region ?_
  refine sxo_pure rfl rfl rfl trivial ?_
  refine sxo_pure rfl rfl rfl trivial ?_
  refine sxo_pure rfl rfl rfl (by omega) ?_
  refine sxo_pure rfl rfl rfl trivial ?_
  refine sxo_end ?_
  refine sx_seq ?_
  refine sx_seq ?_
  refine sx_region ?_
  refine sxo_pure rfl rfl rfl trivial ?_
  refine sxo_pure rfl rfl rfl trivial ?_
  refine sxo_end ?_
  refine sx_cond rfl (fun h => ?_) (fun h => ?_)
  · refine sx_seq ?_
    refine sx_region ?_
    refine sxo_pure rfl rfl rfl trivial ?_
    refine sxo_pure rfl rfl rfl trivial ?_
    refine sxo_pure rfl rfl rfl trivial ?_
    refine sxo_pure rfl rfl rfl trivial ?_
    refine sxo_call0 rfl rfl rfl rfl (by (apply Take.cons; focus exact .head); exact .nil) (fun Kc hK hB => InsRate_ok Kc p n c l (by omega)) rfl rfl ?_ (hH := by rintro v m ⟨l', hl', rfl⟩; (exact hh_nil))
    rintro v m ⟨l', hl', rfl⟩
    simp only [List.cons_append, List.nil_append, List.append_nil, resV]
    refine sxo_end ?_
    refine sx_retL hret hro hk .nil ⟨l', hl', rfl⟩ (by (apply Take.cons; focus exact .head); exact .nil)
  · simp at h; omega
theorem bitsLen_ok (K : Hp) (mem : List Ent) (x : Int) (h0 : 0 ≤ x) (h1 : x ≤ 18446744073709551615) : TR Tryz.prog K 250 [.o (.int .u64 x)] mem fun v m => v = .s (.o (.int .i64 (Lib.bitLen x.toNat))) ∧ m = mem :=
  tr_of_still ⟨_, Tryz.func250, rfl, rfl⟩ fun w => Tryz.bits_Len x w h0 h1
theorem SortRate_ok (K : Hp) (p : Option Addr) (n c : Nat) (l : List Rate) (hl : l.length ≤ 12) : TR Tryz.prog K 255 [.o (.slice p n c), .o (.func (.func 256) #[] #[])] [.vec ⟨p, n, c⟩ 163 3 encR l]
    fun _ m => ∃ l' : List Rate, l'.length = l.length ∧ m = [.vec ⟨p, n, c⟩ 163 3 encR l'] := by
  refine tr_intro Tryz.func255 rfl rfl rfl fun cx hro hk hret => ?_
  refine sx_seq ?_
  refine sx_region ?_
  refine sxo_pure rfl rfl rfl trivial ?_
  refine sxo_len rfl rfl rfl rfl rfl (by exact Reads.own (by exact .head)) rfl rfl ?_
  refine sxo_pure rfl rfl rfl trivial ?_
  refine sxo_end ?_
  refine sx_region ?_
  refine sxo_pure rfl rfl rfl trivial ?_
  refine sxo_pure rfl rfl rfl trivial ?_
  refine sxo_pure rfl rfl rfl trivial ?_
  refine sxo_conv rfl rfl rfl rfl rfl rfl rfl rfl ?_
  rw [wrap_u64 (n := l.length) (by omega)]
  refine sxo_call0 rfl rfl rfl rfl (by exact .nil) (fun Kc hK hB => bitsLen_ok Kc [] _ (by omega) (by omega)) rfl rfl ?_ (hH := by rintro v m ⟨rfl, rfl⟩; (exact hh_nil))
  rintro v m ⟨rfl, rfl⟩
  simp only [List.cons_append, List.nil_append, List.append_nil, resV]
  refine sxo_pure rfl rfl rfl trivial ?_
  refine sxo_call0 rfl rfl rfl rfl (by (apply Take.cons; focus exact .head); exact .nil) (fun Kc hK hB => PdqRate_ok Kc p n c l _ hl) rfl rfl ?_ (hH := by rintro v m ⟨l', hl', rfl⟩; (exact hh_nil))
  rintro v m ⟨l', hl', rfl⟩
  simp only [List.cons_append, List.nil_append, List.append_nil, resV]
  refine sxo_end ?_
  refine sx_endL hret hro hk .nil ⟨l', hl', rfl⟩ (by (apply Take.cons; focus exact .head); exact .nil)
theorem Choose_ok (K : Hp) (p : Option Addr) (n c : Nat) (l : List Rate) (tried : Int) (turn : Bool) (seed : Int) (hl : l.length ≤ 12) (hw : ∀ x ∈ l, x.wants = true) : TR Tryz.prog K 153 [.o (.slice p n c), .o (.int .i64 2), .o (.int .i64 tried), .o (.bool turn), .o (.int .u64 seed)] [.vec ⟨p, n, c⟩ 163 3 encR l]
    fun v r => ∃ p' n' c', ∃ o : List Int, ∃ t e, o.length ≤ 20 ∧ v = .t [.o (.slice p' n' c'), .o (.int .i64 t), .o (.int .i64 e)] ∧ r = [.vec ⟨p', n', c'⟩ 3 1 encI o] := by
  refine tr_intro Tryz.func153 rfl rfl rfl fun cx hro hk hret => ?_
  refine sx_seq ?_
  refine sx_region ?_
  refine sxo_pure rfl rfl rfl trivial ?_
  refine sxo_pure rfl rfl rfl trivial ?_
  refine sxo_pure rfl rfl rfl trivial ?_
  refine sxo_end ?_
  refine sx_seq ?_
  refine sx_seq ?_
  refine sx_region ?_
  refine sxo_pure rfl rfl rfl trivial ?_
  refine sxo_pure rfl rfl rfl trivial ?_
  refine sxo_pure rfl rfl rfl trivial ?_
  refine sxo_pure rfl rfl rfl trivial ?_
  refine sxo_pure rfl rfl rfl trivial ?_
  refine sxo_pure rfl rfl rfl trivial ?_
  refine sxo_end ?_
  refine sx_condF rfl ?_
  refine sx_skip ?_
  refine sx_seq ?_
  refine sx_seq ?_
  refine sx_region ?_
  refine sxo_pure rfl rfl rfl trivial ?_
  refine sxo_call0 rfl rfl rfl rfl (by (apply Take.cons; focus exact .head); exact .nil) (fun Kc hK hB => chokeRight_ok Kc p n c l (by omega)) rfl rfl ?_ (hH := by rintro v m ⟨⟨e, rfl⟩, rfl⟩; (exact hh_nil))
  rintro v m ⟨⟨e, rfl⟩, rfl⟩
  simp only [List.cons_append, List.nil_append, List.append_nil, resV]
  refine sxo_pure rfl rfl rfl trivial ?_
  refine sxo_end ?_
  refine sx_seq ?_
  refine sx_region ?_
  refine sxo_pure rfl rfl rfl trivial ?_
  refine sxo_pure rfl rfl rfl trivial ?_
  refine sxo_end ?_
  refine sx_cond rfl (fun h => ?_) (fun h => ?_)
  · refine sx_seq ?_
    refine sx_region ?_
    refine sxo_pure rfl rfl rfl trivial ?_
    refine sxo_pure rfl rfl rfl trivial ?_
    refine sxo_pure rfl rfl rfl trivial ?_
    refine sxo_pure rfl rfl rfl trivial ?_
    refine sxo_end ?_
    refine sx_nilVec encI 3 1 ?_
    refine sx_retL hret hro hk (.tmp rfl (.tmp rfl (.tmp rfl .nil))) ⟨_, _, _, [], _, _, by simp, rfl, rfl⟩ (by (apply Take.cons; focus exact .head); exact .nil)
  refine sx_skip ?_
  refine sx_seq ?_
  refine sx_region ?_
  refine sxo_pure rfl rfl rfl trivial ?_
  refine sxo_call0 rfl rfl rfl rfl (by (apply Take.cons; focus exact .head); exact .nil) (fun Kc hK hB => CloneRate_ok Kc _ p n c l (Reads.own .head) (by omega)) rfl rfl ?_ (hH := by rintro v m ⟨p1, n1, c1, rfl, rfl⟩; (exact hh_nil))
  rintro v m ⟨p1, n1, c1, rfl, rfl⟩
  simp only [List.cons_append, List.nil_append, List.append_nil, resV]
  skip
  refine sxo_call0 rfl rfl rfl rfl (by (apply Take.cons; focus exact .head); exact .nil) (fun Kc hK hB => DelRate_ok Kc p1 n1 c1 l (by omega) hw) rfl rfl ?_ (hH := by rintro v m ⟨rfl, rfl⟩; (exact hh_nil))
  rintro v m ⟨rfl, rfl⟩
  simp only [List.cons_append, List.nil_append, List.append_nil, resV]
  refine sxo_pure rfl rfl rfl trivial ?_
  refine sxo_end ?_
  refine sx_seq ?_
  refine sx_region ?_
  refine sxo_pure rfl rfl rfl trivial ?_
  refine sxo_call0 rfl rfl rfl rfl (by (apply Take.cons; focus exact .head); exact .nil) (fun Kc hK hB => SortRate_ok Kc p1 n1 c1 l hl) rfl rfl ?_ (hH := by rintro v m ⟨l', hl', rfl⟩; (exact hh_nil))
  rintro v m ⟨l', hl', rfl⟩
  simp only [List.cons_append, List.nil_append, List.append_nil, resV]
  refine sxo_end ?_
  refine sx_seq ?_
  refine sx_region ?_
  refine sxo_pure rfl rfl rfl trivial ?_
  refine sxo_pure rfl rfl rfl (by omega) ?_
  refine sxo_pure rfl rfl rfl trivial ?_
  refine sxo_len rfl rfl rfl rfl rfl (by exact Reads.own (by exact .head)) rfl rfl ?_
  refine sxo_min rfl rfl rfl rfl rfl ?_
  refine sxo_pure rfl rfl rfl trivial ?_
  refine sxo_end ?_
  refine sx_seq ?_
  refine sx_drawN 9 (by kernel_rfl) [0, 1, 2, 4, 5, 6, 3, 7, 8, 9] [] (by kernel_rfl) ?_
  refine sxo_pure rfl rfl rfl trivial ?_
  refine sxo_pure rfl rfl rfl trivial ?_
  have hm1 : (min (2 - 1) (l'.length : Int)) ≤ l'.length := by omega
  have hm2 : 0 ≤ (min (2 - 1) (l'.length : Int)) := by omega
  generalize hq : min (2 - 1) (l'.length : Int) = q at hm1 hm2
  refine sxo_slice rfl rfl rfl rfl rfl rfl rfl rfl rfl (Reads.own (by exact .head)) (by simp [loOf, hiOf]; omega) (fun p2 c2 hs => ?_)
  refine sxo_pure rfl rfl rfl trivial ?_
  refine sxo_pure rfl rfl rfl trivial ?_
  refine sxo_slice rfl rfl rfl rfl rfl rfl rfl rfl rfl (Reads.own (by exact .head)) (by simp [loOf, hiOf]; omega) (fun p3 c3 hs3 => ?_)
  simp only [loOf, hiOf, Int.toNat_zero, Nat.sub_zero, Int.toNat_natCast] at hs hs3 ⊢
  refine sxo_call0 rfl rfl rfl rfl (by (apply Take.cons; focus exact .head); exact .nil) (fun Kc hK hB => chokeIds_ok Kc p1 n1 c1 l' _ _ _ _ (Nat.le_trans (List.length_take_le' _ _) (by simp; omega)) ((Reads.own .head).sub hs (by omega))) rfl rfl ?_ (hH := by rintro v m ⟨p4, n4, c4, o1, ho1, rfl, rfl⟩; (exact hh_nil))
  rintro v m ⟨p4, n4, c4, o1, ho1, rfl, rfl⟩
  simp only [List.cons_append, List.nil_append, List.append_nil, resV]
  skip
  refine sxo_call0 rfl rfl rfl rfl (by (apply Take.cons; focus exact .tail .head); exact .nil) (fun Kc hK hB => chokeIds_ok Kc p1 n1 c1 l' _ _ _ _ (Nat.le_trans (List.length_take_le' _ _) (by simp; omega)) ((Reads.own .head).sub hs3 (by omega))) rfl rfl ?_ (hH := by rintro v m ⟨p5, n5, c5, o2, ho2, rfl, rfl⟩; (exact hh_nil))
  rintro v m ⟨p5, n5, c5, o2, ho2, rfl, rfl⟩
  simp only [List.cons_append, List.nil_append, List.append_nil, resV]
  refine sxo_pure rfl rfl rfl trivial ?_
  refine sxo_pure rfl rfl rfl trivial ?_
  refine sxo_end ?_
  refine sx_seq ?_
  refine sx_seq ?_
  refine sx_region ?_
  refine sxo_pure rfl rfl rfl trivial ?_
  refine sxo_len rfl rfl rfl rfl rfl (by exact Reads.own (by exact .head)) rfl rfl ?_
  refine sxo_pure rfl rfl rfl trivial ?_
  refine sxo_end ?_
  have hol1 : o1.length ≤ 12 := by simp at ho1; omega
  have hol2 : o2.length ≤ 12 := by simp at ho2; omega
  refine sx_cond rfl (fun h5 => ?_) (fun h5 => ?_)
  · refine sx_seq ?_
    refine sx_region ?_
    refine sxo_pure rfl rfl rfl trivial ?_
    refine sxo_pure rfl rfl rfl trivial ?_
    refine sxo_pure rfl rfl rfl trivial ?_
    refine sxo_pure rfl rfl rfl trivial ?_
    refine sxo_end ?_
    refine sx_retL hret hro hk (.tmp rfl (.tmp rfl (.tmp rfl .nil))) ⟨_, _, _, o1, _, _, by omega, rfl, rfl⟩ (by (apply Take.cons; focus exact .tail (.tail .head)); exact .nil)
  have h2 : 0 < o2.length := by have := of_decide_eq_false h5; omega
  refine sx_skip ?_
  refine sx_seq ?_
  refine sx_seq ?_
  refine sx_region ?_
  refine sxo_pure rfl rfl rfl trivial ?_
  refine sxo_pure rfl rfl rfl trivial ?_
  cases turn with
  | true =>
    refine sxo_pass rfl rfl rfl ?_
    refine sxo_pass rfl rfl rfl ?_
    refine sxo_pass rfl rfl rfl ?_
    refine sxo_pass rfl rfl rfl ?_
    refine sxo_pure rfl rfl rfl trivial ?_
    refine sxo_end ?_
    refine sx_condT rfl ?_
    refine sx_region ?_
    refine sxo_pure rfl rfl rfl trivial ?_
    refine sxo_pure rfl rfl rfl trivial ?_
    refine sxo_call0 rfl rfl rfl rfl (by exact .nil) (fun Kc hK hB => drawNew_ok Kc _) rfl rfl ?_ (hH := by rintro v m ⟨b, rfl, rfl⟩; (exact hh_nil))
    rintro v m ⟨b, rfl, rfl⟩
    simp only [List.cons_append, List.nil_append, List.append_nil, resV]
    refine sxo_pure rfl rfl rfl trivial ?_
    refine sxo_len rfl rfl rfl rfl rfl (by exact Reads.own (by exact .tail .head)) rfl rfl ?_
    refine sxo_conv rfl rfl rfl rfl rfl rfl rfl rfl ?_
    rw [wrap_u64 (n := o2.length) (by omega)]
    refine sxo_call0 rfl rfl rfl rfl (by (apply Take.cons; focus exact .head); exact .nil) (fun Kc hK hB => drawBelow_ok Kc b _ o2.length (by omega)) rfl rfl ?_ (hH := by rintro v m ⟨rfl, rfl⟩; (exact hh_nil))
    rintro v m ⟨rfl, rfl⟩
    simp only [List.cons_append, List.nil_append, List.append_nil, resV]
    have hb := drawBelow_in seed (n := o2.length) (by omega)
    skip
    refine sxo_indexAddr rfl rfl rfl rfl rfl rfl rfl (Reads.own (by exact .tail .head)) (by omega) rfl (fun _ _ => ?_)
    refine sxo_loadEl0 rfl rfl rfl (by exact .head) (Reads.own (by exact .tail (.tail .head))) rfl (by omega) (fun _ => rfl) rfl rfl (fun id hid => ?_)
    refine sxo_pure rfl rfl rfl trivial ?_
    refine sxo_end ?_
    refine sx_seq ?_
    refine sx_region ?_
    refine sxo_pure rfl rfl rfl trivial ?_
    refine sxo_pure rfl rfl rfl trivial ?_
    refine sxo_buildSlice rfl rfl rfl rfl rfl rfl rfl rfl rfl rfl rfl rfl rfl (fun _ => ?_)
    refine sxo_append (lx := [id]) rfl rfl rfl rfl rfl rfl rfl rfl rfl rfl (by exact .tail (.tail (.tail (.tail (.tail .head))))) (Reads.one (by exact .head) rfl rfl) (fun _ => rfl) rfl rfl rfl (by simp; omega) (fun p6 n6 c6 => ?_)
    refine sxo_pure rfl rfl rfl trivial ?_
    refine sxo_end ?_
    refine sx_seq ?_
    refine sx_region ?_
    refine sxo_pure rfl rfl rfl trivial ?_
    refine sxo_call0 rfl rfl rfl rfl (by (apply Take.cons; focus exact .head); exact .nil) (fun Kc hK hB => SortInt_ok Kc p6 n6 c6 _ (by simp; omega)) rfl rfl ?_ (hH := by rintro v m rfl; (exact hh_nil))
    rintro v m rfl
    simp only [List.cons_append, List.nil_append, List.append_nil, resV]
    refine sxo_end ?_
    refine sx_seq ?_
    refine sx_region ?_
    refine sxo_pure rfl rfl rfl trivial ?_
    refine sxo_pure rfl rfl rfl trivial ?_
    refine sxo_pure rfl rfl rfl trivial ?_
    refine sxo_pure rfl rfl rfl trivial ?_
    refine sxo_pure rfl rfl rfl trivial ?_
    refine sxo_end ?_
    refine sx_retL hret hro hk (.tmp rfl (.tmp rfl (.tmp rfl .nil))) ⟨_, _, _, (o1 ++ [id]).mergeSort le_, _, _, by rw [List.length_mergeSort]; simp; omega, rfl, rfl⟩ (by (apply Take.cons; focus exact .head); exact .nil)
  | false =>
    refine sxo_pure rfl rfl rfl trivial ?_
    refine sxo_pure rfl rfl rfl trivial ?_
    refine sxo_call0 rfl rfl rfl rfl (by (apply Take.cons; focus exact .head); exact .nil) (fun Kc hK hB => Contains_ok Kc [.vec ⟨p5, n5, c5⟩ 3 1 encI o2] p5 n5 c5 o2 tried (fun _ _ => Reads.own .head) (by omega)) rfl rfl ?_ (hH := by rintro v m ⟨rfl, rfl⟩; (exact hh_nil))
    rintro v m ⟨rfl, rfl⟩
    simp only [List.cons_append, List.nil_append, List.append_nil, resV]
    refine sxo_pure rfl rfl rfl trivial ?_
    refine sxo_pure rfl rfl rfl trivial ?_
    refine sxo_end ?_
    refine sx_cond rfl (fun h6 => ?_) (fun h6 => ?_)
    · refine sx_region ?_
      refine sxo_pure rfl rfl rfl trivial ?_
      refine sxo_pure rfl rfl rfl trivial ?_
      refine sxo_call0 rfl rfl rfl rfl (by exact .nil) (fun Kc hK hB => drawNew_ok Kc _) rfl rfl ?_ (hH := by rintro v m ⟨b, rfl, rfl⟩; (exact hh_nil))
      rintro v m ⟨b, rfl, rfl⟩
      simp only [List.cons_append, List.nil_append, List.append_nil, resV]
      refine sxo_pure rfl rfl rfl trivial ?_
      refine sxo_len rfl rfl rfl rfl rfl (by exact Reads.own (by exact .tail .head)) rfl rfl ?_
      refine sxo_conv rfl rfl rfl rfl rfl rfl rfl rfl ?_
      rw [wrap_u64 (n := o2.length) (by omega)]
      refine sxo_call0 rfl rfl rfl rfl (by (apply Take.cons; focus exact .head); exact .nil) (fun Kc hK hB => drawBelow_ok Kc b _ o2.length (by omega)) rfl rfl ?_ (hH := by rintro v m ⟨rfl, rfl⟩; (exact hh_nil))
      rintro v m ⟨rfl, rfl⟩
      simp only [List.cons_append, List.nil_append, List.append_nil, resV]
      have hb := drawBelow_in seed (n := o2.length) (by omega)
      skip
      refine sxo_indexAddr rfl rfl rfl rfl rfl rfl rfl (Reads.own (by exact .tail .head)) (by omega) rfl (fun _ _ => ?_)
      refine sxo_loadEl0 rfl rfl rfl (by exact .head) (Reads.own (by exact .tail (.tail .head))) rfl (by omega) (fun _ => rfl) rfl rfl (fun id hid => ?_)
      refine sxo_pure rfl rfl rfl trivial ?_
      refine sxo_end ?_
      refine sx_seq ?_
      refine sx_region ?_
      refine sxo_pure rfl rfl rfl trivial ?_
      refine sxo_pure rfl rfl rfl trivial ?_
      refine sxo_buildSlice rfl rfl rfl rfl rfl rfl rfl rfl rfl rfl rfl rfl rfl (fun _ => ?_)
      refine sxo_append (lx := [id]) rfl rfl rfl rfl rfl rfl rfl rfl rfl rfl (by exact .tail (.tail (.tail (.tail (.tail .head))))) (Reads.one (by exact .head) rfl rfl) (fun _ => rfl) rfl rfl rfl (by simp; omega) (fun p6 n6 c6 => ?_)
      refine sxo_pure rfl rfl rfl trivial ?_
      refine sxo_end ?_
      refine sx_seq ?_
      refine sx_region ?_
      refine sxo_pure rfl rfl rfl trivial ?_
      refine sxo_call0 rfl rfl rfl rfl (by (apply Take.cons; focus exact .head); exact .nil) (fun Kc hK hB => SortInt_ok Kc p6 n6 c6 _ (by simp; omega)) rfl rfl ?_ (hH := by rintro v m rfl; (exact hh_nil))
      rintro v m rfl
      simp only [List.cons_append, List.nil_append, List.append_nil, resV]
      refine sxo_end ?_
      refine sx_seq ?_
      refine sx_region ?_
      refine sxo_pure rfl rfl rfl trivial ?_
      refine sxo_pure rfl rfl rfl trivial ?_
      refine sxo_pure rfl rfl rfl trivial ?_
      refine sxo_pure rfl rfl rfl trivial ?_
      refine sxo_pure rfl rfl rfl trivial ?_
      refine sxo_end ?_
      refine sx_retL hret hro hk (.tmp rfl (.tmp rfl (.tmp rfl .nil))) ⟨_, _, _, (o1 ++ [id]).mergeSort le_, _, _, by rw [List.length_mergeSort]; simp; omega, rfl, rfl⟩ (by (apply Take.cons; focus exact .head); exact .nil)
    · refine sx_skip ?_
      refine sx_seq ?_
      refine sx_region ?_
      refine sxo_pure rfl rfl rfl trivial ?_
      refine sxo_pure rfl rfl rfl trivial ?_
      refine sxo_buildSlice rfl rfl rfl rfl rfl rfl rfl rfl rfl rfl rfl rfl rfl (fun _ => ?_)
      refine sxo_append (lx := [tried]) rfl rfl rfl rfl rfl rfl rfl rfl rfl rfl (by exact .tail (.tail (.tail .head))) (Reads.one (by exact .head) rfl rfl) (fun _ => rfl) rfl rfl rfl (by simp; omega) (fun p6 n6 c6 => ?_)
      refine sxo_pure rfl rfl rfl trivial ?_
      refine sxo_end ?_
      refine sx_seq ?_
      refine sx_region ?_
      refine sxo_pure rfl rfl rfl trivial ?_
      refine sxo_call0 rfl rfl rfl rfl (by (apply Take.cons; focus exact .head); exact .nil) (fun Kc hK hB => SortInt_ok Kc p6 n6 c6 _ (by simp; omega)) rfl rfl ?_ (hH := by rintro v m rfl; (exact hh_nil))
      rintro v m rfl
      simp only [List.cons_append, List.nil_append, List.append_nil, resV]
      refine sxo_end ?_
      refine sx_seq ?_
      refine sx_region ?_
      refine sxo_pure rfl rfl rfl trivial ?_
      refine sxo_pure rfl rfl rfl trivial ?_
      refine sxo_pure rfl rfl rfl trivial ?_
      refine sxo_pure rfl rfl rfl trivial ?_
      refine sxo_pure rfl rfl rfl trivial ?_
      refine sxo_end ?_
      refine sx_retL hret hro hk (.tmp rfl (.tmp rfl (.tmp rfl .nil))) ⟨_, _, _, (o1 ++ [tried]).mergeSort le_, _, _, by rw [List.length_mergeSort]; simp; omega, rfl, rfl⟩ (by (apply Take.cons; focus exact .head); exact .nil)
end Go.SX

namespace Go.SX
open Go.Proofs
attribute [local irreducible] SX SXo
def wheelF (b : Nat) (x : Int × Int × Option (Nat × List (Int × Bool))) : List Ent := .blk b 149 (wheelCh x.1 x.2.1 (x.2.2.map (·.1))) :: (match x.2.2 with | none => [] | some (a, m) => [.map a ekInt evB m])
/-- A wheel, whatever its round. -/
def wheelO (b : Nat) : Ent := obj (fun _ => True) (wheelF b)
theorem Round_ok (K : Hp) (b : Nat) (p : Option Addr) (n c : Nat) (l : List Rate) (seed : Int) (hl : l.length ≤ 12) (hw : ∀ x ∈ l, x.wants = true) : TR Tryz.prog K 71 [evPtr b, .o (.slice p n c), .o (.int .u64 seed)] [wheelO b, .vec ⟨p, n, c⟩ 163 3 encR l]
    fun _ r => r = [wheelO b] := by
  refine tr_intro Tryz.func71 rfl rfl rfl fun cx hro hk hret => ?_
  refine sx_open .head (fun x _ => ?_)
  obtain ⟨rd, tr, mb⟩ := x
  rcases mb with _ | ⟨a, m⟩
  · simp only [wheelF, Option.map, List.cons_append, List.nil_append]
    refine sx_seq ?_
    refine sx_region ?_
    refine sxo_pure rfl rfl rfl trivial ?_
    refine sxo_pure rfl rfl rfl trivial ?_
    refine sxo_end ?_
    refine sx_seq ?_
    refine sx_drawN 1 (by kernel_rfl) [0, 1, 2, 3, 4, 5, 6, 7, 8, 9, 10, 11, 12, 13, 14, 15, 16, 17, 18, 19, 20, 21, 22, 23, 24, 25, 26, 27] [] (by kernel_rfl) ?_
    refine sxo_pure rfl rfl rfl trivial ?_
    refine sxo_pure rfl rfl rfl trivial ?_
    refine sxo_pure rfl rfl rfl trivial ?_
    refine sxo_pure rfl rfl rfl trivial ?_
    refine sxo_load rfl rfl rfl (by exact .head) rfl rfl rfl rfl ?_
    refine sxo_pure rfl rfl rfl trivial ?_
    refine sxo_pure rfl rfl rfl trivial ?_
    refine sxo_pure rfl rfl rfl trivial ?_
    refine sxo_load rfl rfl rfl (by exact .head) rfl rfl rfl rfl ?_
    refine sxo_pure rfl rfl rfl trivial ?_
    refine sxo_pure rfl rfl rfl trivial ?_
    refine sxo_pure rfl rfl rfl trivial ?_
    refine sxo_load rfl rfl rfl (by exact .head) rfl rfl rfl rfl ?_
    refine sxo_pure rfl rfl rfl trivial ?_
    refine sxo_pure rfl rfl rfl trivial ?_
    refine sxo_pure rfl rfl rfl trivial ?_
    refine sxo_load rfl rfl rfl (by exact .head) rfl rfl rfl rfl ?_
    refine sxo_remG rfl rfl rfl rfl (by decide) rfl ?_
    refine sxo_pure rfl rfl rfl trivial ?_
    refine sxo_pure rfl rfl rfl trivial ?_
    refine sxo_call0 rfl rfl rfl rfl (by (apply Take.cons; focus exact .tail .head); exact .nil) (fun Kc hK hB => Choose_ok Kc p n c l _ _ _ hl hw) rfl rfl ?_ (hH := by rintro v m ⟨p1, n1, c1, o, t1, e, ho, rfl, rfl⟩; (exact hh_nil))
    rintro v m ⟨p1, n1, c1, o, t1, e, ho, rfl, rfl⟩
    simp only [List.cons_append, List.nil_append, List.append_nil, resV]
    refine sxo_pure rfl rfl rfl trivial ?_
    refine sxo_pure rfl rfl rfl trivial ?_
    refine sxo_pure rfl rfl rfl trivial ?_
    refine sxo_pure rfl rfl rfl trivial ?_
    refine sxo_pure rfl rfl rfl trivial ?_
    refine sxo_pure rfl rfl rfl trivial ?_
    refine sxo_pure rfl rfl rfl trivial ?_
    refine sxo_end ?_
    refine sx_seq ?_
    refine sx_seq ?_
    refine sx_region ?_
    refine sxo_pure rfl rfl rfl trivial ?_
    refine sxo_pure rfl rfl rfl trivial ?_
    refine sxo_end ?_
    refine sx_cond rfl (fun h => ?_) (fun h => ?_)
    · refine sx_seq ?_
      refine sx_region ?_
      refine sxo_pure rfl rfl rfl trivial ?_
      refine sxo_pure rfl rfl rfl trivial ?_
      refine sxo_pure rfl rfl rfl trivial ?_
      refine sxo_end ?_
      refine sx_fold (I := fun _ => True) (f := wheelF b) (rd, tr, none) trivial (by (apply Take.cons; focus exact .tail .head); exact .nil) ?_
      refine sx_retL hret hro hk (.tmp rfl (.tmp rfl .nil)) rfl (by (apply Take.cons; focus exact .head); exact .nil)
    refine sx_skip ?_
    refine sx_seq ?_
    refine sx_region ?_
    refine sxo_pure rfl rfl rfl trivial ?_
    refine sxo_pure rfl rfl rfl trivial ?_
    refine sxo_pure rfl rfl rfl trivial ?_
    refine sxo_load rfl rfl rfl (by exact .tail .head) rfl rfl rfl rfl ?_
    refine sxo_wrap rfl rfl rfl rfl rfl rfl ?_
    refine sxo_pure rfl rfl rfl trivial ?_
    refine sxo_pure rfl rfl rfl trivial ?_
    refine sxo_store rfl rfl rfl rfl (by exact .tail .head) rfl rfl rfl rfl rfl ?_
    refine sxo_end ?_
    refine sx_seq ?_
    refine sx_region ?_
    refine sxo_pure rfl rfl rfl trivial ?_
    refine sxo_pure rfl rfl rfl trivial ?_
    refine sxo_pure rfl rfl rfl trivial ?_
    refine sxo_makeMap ekInt evB rfl rfl rfl rfl (fun bm => ?_)
    refine sxo_pure rfl rfl rfl trivial ?_
    refine sxo_pure rfl rfl rfl trivial ?_
    refine sxo_store rfl rfl rfl rfl (by exact .tail .head) rfl rfl rfl rfl rfl ?_
    refine sxo_pure rfl rfl rfl trivial ?_
    refine sxo_pure rfl rfl rfl trivial ?_
    refine sxo_store rfl rfl rfl rfl (by exact .head) rfl rfl rfl rfl rfl ?_
    refine sxo_end ?_
    refine sx_seq ?_
    refine sx_seq ?_
    refine sx_region ?_
    refine sxo_pure rfl rfl rfl trivial ?_
    refine sxo_len rfl rfl rfl rfl rfl (by exact Reads.own (by exact .tail (.tail .head))) rfl rfl ?_
    refine sxo_pure rfl rfl rfl trivial ?_
    refine sxo_end ?_
    refine sx_block ?_
    refine sx_less (by refine .cons rfl ?_; refine .cons rfl ?_; refine .cons rfl ?_; refine .cons rfl ?_; refine .cons rfl ?_; exact .nil _) (by (apply Take.cons; focus exact .tail .head); (apply Take.cons; focus exact .head); (apply Take.cons; focus exact .head); exact .nil) (sx_loopI (γ := Nat × List (Int × Bool)) (fun x => x.1 ≤ o.length) (fun x => o.length - x.1) (fun x => [(0, .s (evPtr b)), (8, .s (.o (.slice p1 n1 c1))), (56, .s (.o (.slice p1 n1 c1))), (57, .s (.o (.int .i64 o.length))), (58, .s (.o (.int .i64 x.1)))]) (fun x => [.map bm ekInt evB x.2, .blk b 149 (wheelCh (IntKind.i64.wrap (rd + 1)) t1 (some bm)), .vec ⟨p1, n1, c1⟩ 3 1 encI o]) ((0, [])) (by simp) ?_)
    rintro ⟨j, m2⟩ hj ih
    simp only at hj
    refine sx_seq ?_
    refine sx_region ?_
    refine sxo_pure rfl rfl rfl trivial ?_
    refine sxo_end ?_
    refine sx_seq ?_
    refine sx_cond rfl (fun h => ?_) (fun h => ?_)
    · simp at h
      refine sx_skip ?_
      refine sx_seq ?_
      refine sx_block ?_
      refine sx_seq ?_
      refine sx_region ?_
      refine sxo_indexAddr rfl rfl rfl rfl rfl rfl rfl (Reads.own (by exact .tail (.tail .head))) (by omega) rfl (fun _ _ => ?_)
      refine sxo_loadEl0 rfl rfl rfl (by exact .head) (Reads.own (by exact .tail (.tail (.tail .head)))) rfl (by omega) (fun _ => rfl) rfl rfl (fun x hx => ?_)
      refine sxo_pure rfl rfl rfl trivial ?_
      refine sxo_end ?_
      refine sx_region ?_
      refine sxo_pure rfl rfl rfl trivial ?_
      refine sxo_pure rfl rfl rfl trivial ?_
      refine sxo_pure rfl rfl rfl trivial ?_
      refine sxo_load rfl rfl rfl (by exact .tail (.tail .head)) rfl rfl rfl rfl ?_
      refine sxo_pure rfl rfl rfl trivial ?_
      refine sxo_update ekInt _ (v := true) (.inl rfl) rfl rfl rfl rfl (by exact .tail .head) rfl rfl (kt_int rfl rfl) rfl rfl ?_
      refine sxo_end ?_
      refine sx_inBlock ?_
      refine sx_region ?_
      refine sxo_pure rfl rfl rfl (by omega) ?_
      refine sxo_pure rfl rfl rfl trivial ?_
      refine sxo_end ?_
      refine sx_less (by refine .cons rfl ?_; refine .cons rfl ?_; refine .cons rfl ?_; refine .cons rfl ?_; refine .cons rfl ?_; exact .nil _) (by (apply Take.cons; focus exact .head); (apply Take.cons; focus exact .tail .head); (apply Take.cons; focus exact .tail .head); exact .nil) (ih ((j + 1, mput m2 x true)) (by simp only; omega) (by simp only; omega))
    · refine sx_exit rfl ?_
      refine sx_seq ?_
      refine sx_region ?_
      refine sxo_pure rfl rfl rfl trivial ?_
      refine sxo_pure rfl rfl rfl trivial ?_
      refine sxo_pure rfl rfl rfl trivial ?_
      refine sxo_end ?_
      refine sx_fold (I := fun _ => True) (f := wheelF b) (IntKind.i64.wrap (rd + 1), t1, some (bm, m2)) trivial (by (apply Take.cons; focus exact .tail .head); (apply Take.cons; focus exact .head); exact .nil) ?_
      refine sx_retL hret hro hk (.tmp rfl (.tmp rfl .nil)) rfl (by (apply Take.cons; focus exact .head); exact .nil)
  · simp only [wheelF, Option.map, List.cons_append, List.nil_append]
    refine sx_seq ?_
    refine sx_region ?_
    refine sxo_pure rfl rfl rfl trivial ?_
    refine sxo_pure rfl rfl rfl trivial ?_
    refine sxo_end ?_
    refine sx_seq ?_
    refine sx_drawN 1 (by kernel_rfl) [0, 1, 2, 3, 4, 5, 6, 7, 8, 9, 10, 11, 12, 13, 14, 15, 16, 17, 18, 19, 20, 21, 22, 23, 24, 25, 26, 27] [] (by kernel_rfl) ?_
    refine sxo_pure rfl rfl rfl trivial ?_
    refine sxo_pure rfl rfl rfl trivial ?_
    refine sxo_pure rfl rfl rfl trivial ?_
    refine sxo_pure rfl rfl rfl trivial ?_
    refine sxo_load rfl rfl rfl (by exact .head) rfl rfl rfl rfl ?_
    refine sxo_pure rfl rfl rfl trivial ?_
    refine sxo_pure rfl rfl rfl trivial ?_
    refine sxo_pure rfl rfl rfl trivial ?_
    refine sxo_load rfl rfl rfl (by exact .head) rfl rfl rfl rfl ?_
    refine sxo_pure rfl rfl rfl trivial ?_
    refine sxo_pure rfl rfl rfl trivial ?_
    refine sxo_pure rfl rfl rfl trivial ?_
    refine sxo_load rfl rfl rfl (by exact .head) rfl rfl rfl rfl ?_
    refine sxo_pure rfl rfl rfl trivial ?_
    refine sxo_pure rfl rfl rfl trivial ?_
    refine sxo_pure rfl rfl rfl trivial ?_
    refine sxo_load rfl rfl rfl (by exact .head) rfl rfl rfl rfl ?_
    refine sxo_remG rfl rfl rfl rfl (by decide) rfl ?_
    refine sxo_pure rfl rfl rfl trivial ?_
    refine sxo_pure rfl rfl rfl trivial ?_
    refine sxo_call0 rfl rfl rfl rfl (by (apply Take.cons; focus exact .tail (.tail .head)); exact .nil) (fun Kc hK hB => Choose_ok Kc p n c l _ _ _ hl hw) rfl rfl ?_ (hH := by rintro v m ⟨p1, n1, c1, o, t1, e, ho, rfl, rfl⟩; (exact hh_nil))
    rintro v m ⟨p1, n1, c1, o, t1, e, ho, rfl, rfl⟩
    simp only [List.cons_append, List.nil_append, List.append_nil, resV]
    refine sxo_pure rfl rfl rfl trivial ?_
    refine sxo_pure rfl rfl rfl trivial ?_
    refine sxo_pure rfl rfl rfl trivial ?_
    refine sxo_pure rfl rfl rfl trivial ?_
    refine sxo_pure rfl rfl rfl trivial ?_
    refine sxo_pure rfl rfl rfl trivial ?_
    refine sxo_pure rfl rfl rfl trivial ?_
    refine sxo_end ?_
    refine sx_seq ?_
    refine sx_seq ?_
    refine sx_region ?_
    refine sxo_pure rfl rfl rfl trivial ?_
    refine sxo_pure rfl rfl rfl trivial ?_
    refine sxo_end ?_
    refine sx_cond rfl (fun h => ?_) (fun h => ?_)
    · refine sx_seq ?_
      refine sx_region ?_
      refine sxo_pure rfl rfl rfl trivial ?_
      refine sxo_pure rfl rfl rfl trivial ?_
      refine sxo_pure rfl rfl rfl trivial ?_
      refine sxo_end ?_
      refine sx_fold (I := fun _ => True) (f := wheelF b) (rd, tr, some (a, m)) trivial (by (apply Take.cons; focus exact .tail .head); (apply Take.cons; focus exact .tail .head); exact .nil) ?_
      refine sx_retL hret hro hk (.tmp rfl (.tmp rfl .nil)) rfl (by (apply Take.cons; focus exact .head); exact .nil)
    refine sx_skip ?_
    refine sx_seq ?_
    refine sx_region ?_
    refine sxo_pure rfl rfl rfl trivial ?_
    refine sxo_pure rfl rfl rfl trivial ?_
    refine sxo_pure rfl rfl rfl trivial ?_
    refine sxo_load rfl rfl rfl (by exact .tail .head) rfl rfl rfl rfl ?_
    refine sxo_wrap rfl rfl rfl rfl rfl rfl ?_
    refine sxo_pure rfl rfl rfl trivial ?_
    refine sxo_pure rfl rfl rfl trivial ?_
    refine sxo_store rfl rfl rfl rfl (by exact .tail .head) rfl rfl rfl rfl rfl ?_
    refine sxo_end ?_
    refine sx_seq ?_
    refine sx_region ?_
    refine sxo_pure rfl rfl rfl trivial ?_
    refine sxo_pure rfl rfl rfl trivial ?_
    refine sxo_pure rfl rfl rfl trivial ?_
    refine sxo_makeMap ekInt evB rfl rfl rfl rfl (fun bm => ?_)
    refine sxo_pure rfl rfl rfl trivial ?_
    refine sxo_pure rfl rfl rfl trivial ?_
    refine sxo_store rfl rfl rfl rfl (by exact .tail .head) rfl rfl rfl rfl rfl ?_
    refine sxo_pure rfl rfl rfl trivial ?_
    refine sxo_pure rfl rfl rfl trivial ?_
    refine sxo_store rfl rfl rfl rfl (by exact .head) rfl rfl rfl rfl rfl ?_
    refine sxo_end ?_
    refine sx_seq ?_
    refine sx_seq ?_
    refine sx_region ?_
    refine sxo_pure rfl rfl rfl trivial ?_
    refine sxo_len rfl rfl rfl rfl rfl (by exact Reads.own (by exact .tail (.tail .head))) rfl rfl ?_
    refine sxo_pure rfl rfl rfl trivial ?_
    refine sxo_end ?_
    refine sx_block ?_
    refine sx_less (by refine .cons rfl ?_; refine .cons rfl ?_; refine .cons rfl ?_; refine .cons rfl ?_; refine .cons rfl ?_; exact .nil _) (by (apply Take.cons; focus exact .tail .head); (apply Take.cons; focus exact .head); (apply Take.cons; focus exact .head); exact .nil) (sx_loopI (γ := Nat × List (Int × Bool)) (fun x => x.1 ≤ o.length) (fun x => o.length - x.1) (fun x => [(0, .s (evPtr b)), (8, .s (.o (.slice p1 n1 c1))), (56, .s (.o (.slice p1 n1 c1))), (57, .s (.o (.int .i64 o.length))), (58, .s (.o (.int .i64 x.1)))]) (fun x => [.map bm ekInt evB x.2, .blk b 149 (wheelCh (IntKind.i64.wrap (rd + 1)) t1 (some bm)), .vec ⟨p1, n1, c1⟩ 3 1 encI o]) ((0, [])) (by simp) ?_)
    rintro ⟨j, m2⟩ hj ih
    simp only at hj
    refine sx_seq ?_
    refine sx_region ?_
    refine sxo_pure rfl rfl rfl trivial ?_
    refine sxo_end ?_
    refine sx_seq ?_
    refine sx_cond rfl (fun h => ?_) (fun h => ?_)
    · simp at h
      refine sx_skip ?_
      refine sx_seq ?_
      refine sx_block ?_
      refine sx_seq ?_
      refine sx_region ?_
      refine sxo_indexAddr rfl rfl rfl rfl rfl rfl rfl (Reads.own (by exact .tail (.tail .head))) (by omega) rfl (fun _ _ => ?_)
      refine sxo_loadEl0 rfl rfl rfl (by exact .head) (Reads.own (by exact .tail (.tail (.tail .head)))) rfl (by omega) (fun _ => rfl) rfl rfl (fun x hx => ?_)
      refine sxo_pure rfl rfl rfl trivial ?_
      refine sxo_end ?_
      refine sx_region ?_
      refine sxo_pure rfl rfl rfl trivial ?_
      refine sxo_pure rfl rfl rfl trivial ?_
      refine sxo_pure rfl rfl rfl trivial ?_
      refine sxo_load rfl rfl rfl (by exact .tail (.tail .head)) rfl rfl rfl rfl ?_
      refine sxo_pure rfl rfl rfl trivial ?_
      refine sxo_update ekInt _ (v := true) (.inl rfl) rfl rfl rfl rfl (by exact .tail .head) rfl rfl (kt_int rfl rfl) rfl rfl ?_
      refine sxo_end ?_
      refine sx_inBlock ?_
      refine sx_region ?_
      refine sxo_pure rfl rfl rfl (by omega) ?_
      refine sxo_pure rfl rfl rfl trivial ?_
      refine sxo_end ?_
      refine sx_less (by refine .cons rfl ?_; refine .cons rfl ?_; refine .cons rfl ?_; refine .cons rfl ?_; refine .cons rfl ?_; exact .nil _) (by (apply Take.cons; focus exact .head); (apply Take.cons; focus exact .tail .head); (apply Take.cons; focus exact .tail .head); exact .nil) (ih ((j + 1, mput m2 x true)) (by simp only; omega) (by simp only; omega))
    · refine sx_exit rfl ?_
      refine sx_seq ?_
      refine sx_region ?_
      refine sxo_pure rfl rfl rfl trivial ?_
      refine sxo_pure rfl rfl rfl trivial ?_
      refine sxo_pure rfl rfl rfl trivial ?_
      refine sxo_end ?_
      refine sx_fold (I := fun _ => True) (f := wheelF b) (IntKind.i64.wrap (rd + 1), t1, some (bm, m2)) trivial (by (apply Take.cons; focus exact .tail .head); (apply Take.cons; focus exact .head); exact .nil) ?_
      refine sx_retL hret hro hk (.tmp rfl (.tmp rfl .nil)) rfl (by (apply Take.cons; focus exact .head); exact .nil)
theorem May_ok (K : Hp) (b : Nat) (id : Int) : TR Tryz.prog K 202 [evPtr b, .o (.int .i64 id)] [wheelO b]
    fun v r => (∃ t : Bool, v = .s (.o (.bool t))) ∧ r = [wheelO b] := by
  refine tr_intro Tryz.func202 rfl rfl rfl fun cx hro hk hret => ?_
  refine sx_open .head (fun x _ => ?_)
  obtain ⟨rd, tr, mb⟩ := x
  rcases mb with _ | ⟨a, m⟩
  · simp only [wheelF, Option.map, List.cons_append, List.nil_append]
    refine sx_seq ?_
    refine sx_region ?_
    refine sxo_pure rfl rfl rfl trivial ?_
    refine sxo_end ?_
    refine sx_seq ?_
    refine sx_region ?_
    refine sxo_pure rfl rfl rfl trivial ?_
    refine sxo_pure rfl rfl rfl trivial ?_
    refine sxo_pure rfl rfl rfl trivial ?_
    refine sxo_load rfl rfl rfl (by exact .head) rfl rfl rfl rfl ?_
    refine sxo_pure rfl rfl rfl trivial ?_
    refine sxo_lookupNil ekInt (z := .o (.bool false)) rfl rfl rfl rfl rfl rfl (kt_int rfl rfl) rfl rfl rfl rfl rfl ?_
    refine sxo_pure rfl rfl rfl trivial ?_
    refine sxo_end ?_
    refine sx_fold (I := fun _ => True) (f := wheelF b) (rd, tr, none) trivial (by (apply Take.cons; focus exact .head); exact .nil) ?_
    refine sx_retL hret hro hk (.tmp rfl .nil) ⟨⟨_, rfl⟩, rfl⟩ (by (apply Take.cons; focus exact .head); exact .nil)
  · simp only [wheelF, Option.map, List.cons_append, List.nil_append]
    refine sx_seq ?_
    refine sx_region ?_
    refine sxo_pure rfl rfl rfl trivial ?_
    refine sxo_end ?_
    refine sx_seq ?_
    refine sx_region ?_
    refine sxo_pure rfl rfl rfl trivial ?_
    refine sxo_pure rfl rfl rfl trivial ?_
    refine sxo_pure rfl rfl rfl trivial ?_
    refine sxo_load rfl rfl rfl (by exact .head) rfl rfl rfl rfl ?_
    refine sxo_pure rfl rfl rfl trivial ?_
    refine sxo_lookup ekInt _ HasZ.z rfl rfl rfl rfl (by exact .tail .head) rfl rfl (kt_int rfl rfl) rfl rfl rfl rfl rfl ?_
    refine sxo_pure rfl rfl rfl trivial ?_
    refine sxo_end ?_
    refine sx_fold (I := fun _ => True) (f := wheelF b) (rd, tr, some (a, m)) trivial (by (apply Take.cons; focus exact .head); (apply Take.cons; focus exact .head); exact .nil) ?_
    refine sx_retL hret hro hk (.tmp rfl .nil) ⟨⟨_, rfl⟩, rfl⟩ (by (apply Take.cons; focus exact .head); exact .nil)
end Go.SX

namespace Go.SX
open Go.Proofs
attribute [local irreducible] SX SXo
@[reducible] def encMp (b : Nat) : List Ch := [.c (.map (some b))]
@[reducible] def diskCh (room : Int) (bm : Nat) (st wr : Sl) : List Ch := [.c (.int .i64 room), .c (.map (some bm)), .c st.v, .c wr.v, .c (.slice none 0 0), .c (.bool false)]
@[reducible] def fileCh (a b : Sl) : List Ch := [.c a.v, .c b.v]
theorem filesNew_ok (K : Hp) (room : Int) (h : 1 ≤ room ∧ room ≤ 1073741824) : TR Tryz.prog K 6 [.o (.int .i64 room)] []
    fun v r => ∃ bd bm st q, v = .t [evPtr bd, .o (.int .i64 0)] ∧ r = [.blk bd 62 (diskCh room bm st ⟨none, 0, 0⟩), .map bm ekStr evPO [], .vec st 58 1 encMp [q]] := by
  refine tr_intro Tryz.func6 rfl rfl rfl fun cx hro hk hret => ?_
  refine sx_seq ?_
  refine sx_region ?_
  refine sxo_pure rfl rfl rfl trivial ?_
  refine sxo_pure rfl rfl rfl trivial ?_
  refine sxo_end ?_
  refine sx_seq ?_
  refine sx_seq ?_
  refine sx_region ?_
  refine sxo_pure rfl rfl rfl trivial ?_
  refine sxo_pure rfl rfl rfl trivial ?_
  refine sxo_pure rfl rfl rfl trivial ?_
  refine sxo_split (t := 6) rfl (fun h1 => ?_) (fun h1 => ?_)
  · simp at h1; omega
  refine sxo_pure rfl rfl rfl trivial ?_
  refine sxo_pure rfl rfl rfl trivial ?_
  refine sxo_pure rfl rfl rfl trivial ?_
  refine sxo_end ?_
  refine sx_cond rfl (fun h2 => ?_) (fun h2 => ?_)
  · simp at h2; omega
  refine sx_skip ?_
  refine sx_seq ?_
  refine sx_region ?_
  refine sxo_pure rfl rfl rfl trivial ?_
  refine sxo_makeMap ekStr evPO rfl rfl rfl rfl (fun bm => ?_)
  skip
  refine sxo_makeMap ekStr evPO rfl rfl rfl rfl (fun bm2 => ?_)
  refine sxo_buildSlice rfl rfl rfl rfl rfl rfl rfl rfl rfl rfl rfl rfl rfl (fun _ => ?_)
  refine sxo_build rfl rfl rfl rfl rfl rfl rfl rfl rfl ?_
  refine sxo_box rfl rfl rfl rfl rfl rfl (fun _ => ?_)
  refine sxo_pure rfl rfl rfl trivial ?_
  refine sxo_pure rfl rfl rfl trivial ?_
  refine sxo_end ?_
  refine sx_recast (.vec ⟨some ⟨_, 0, none⟩, 1, 1⟩ 58 1 encMp [bm2]) (.tail .head) (fun _ hb => blk_vec hb rfl rfl (fun _ _ => rfl)) ?_
  refine sx_retL hret hro hk (.tmp rfl (.tmp rfl .nil)) ⟨_, _, ⟨_, _, _⟩, _, rfl, rfl⟩ (by (apply Take.cons; focus exact .tail .head); (apply Take.cons; focus exact .tail (.tail .head)); (apply Take.cons; focus exact .head); exact .nil)
def oddC (c : UInt8) : Bool := !(decide (97 ≤ (c.toNat : Int)) && decide ((c.toNat : Int) ≤ 122) || (decide (48 ≤ (c.toNat : Int)) && decide ((c.toNat : Int) ≤ 57) || (decide ((c.toNat : Int) = 45) || decide ((c.toNat : Int) = 46))))
theorem filesRight1_ok (K : Hp) (c : UInt8) : TR Tryz.prog K 312 [ekB c] [] fun v r => v = .s (.o (.bool (oddC c))) ∧ r = [] := by
  refine tr_intro Tryz.func312 rfl rfl rfl fun cx hro hk hret => ?_
  refine sx_seq ?_
  refine sx_region ?_
  refine sxo_pure rfl rfl rfl trivial ?_
  refine sxo_end ?_
  refine sx_seq ?_
  refine sx_region ?_
  refine sxo_pure rfl rfl rfl trivial ?_
  refine sxo_pure rfl rfl rfl trivial ?_
  refine sxo_pure rfl rfl rfl trivial ?_
  refine sxo_split (t := 5) rfl (fun h5 => ?_) (fun h5 => ?_)
  · refine sxo_pure rfl rfl rfl trivial ?_
    refine sxo_pure rfl rfl rfl trivial ?_
    refine sxo_pure rfl rfl rfl trivial ?_
    refine sxo_pure rfl rfl rfl trivial ?_
    refine sxo_split (t := 9) rfl (fun h9 => ?_) (fun h9 => ?_)
    · refine sxo_pass rfl rfl rfl ?_
      refine sxo_pass rfl rfl rfl ?_
      refine sxo_pass rfl rfl rfl ?_
      refine sxo_pass rfl rfl rfl ?_
      refine sxo_pass rfl rfl rfl ?_
      refine sxo_pass rfl rfl rfl ?_
      refine sxo_pure rfl rfl rfl trivial ?_
      refine sxo_pure rfl rfl rfl trivial ?_
      refine sxo_pass rfl rfl rfl ?_
      refine sxo_pass rfl rfl rfl ?_
      refine sxo_pure rfl rfl rfl trivial ?_
      refine sxo_pure rfl rfl rfl trivial ?_
      refine sxo_pass rfl rfl rfl ?_
      refine sxo_pass rfl rfl rfl ?_
      refine sxo_pure rfl rfl rfl trivial ?_
      refine sxo_pure rfl rfl rfl trivial ?_
      refine sxo_pure rfl rfl rfl trivial ?_
      refine sxo_end ?_
      refine sx_retL hret hro hk (.tmp rfl .nil) ⟨by simp only [oddC, h5, h9]; rfl, rfl⟩ (by exact .nil)
    · refine sxo_pure rfl rfl rfl trivial ?_
      refine sxo_pure rfl rfl rfl trivial ?_
      refine sxo_pure rfl rfl rfl trivial ?_
      refine sxo_split (t := 12) rfl (fun h12 => ?_) (fun h12 => ?_)
      · refine sxo_pure rfl rfl rfl trivial ?_
        refine sxo_pure rfl rfl rfl trivial ?_
        refine sxo_pure rfl rfl rfl trivial ?_
        refine sxo_pure rfl rfl rfl trivial ?_
        refine sxo_pure rfl rfl rfl trivial ?_
        refine sxo_split (t := 17) rfl (fun h17 => ?_) (fun h17 => ?_)
        · refine sxo_pass rfl rfl rfl ?_
          refine sxo_pass rfl rfl rfl ?_
          refine sxo_pure rfl rfl rfl trivial ?_
          refine sxo_pure rfl rfl rfl trivial ?_
          refine sxo_pass rfl rfl rfl ?_
          refine sxo_pass rfl rfl rfl ?_
          refine sxo_pure rfl rfl rfl trivial ?_
          refine sxo_pure rfl rfl rfl trivial ?_
          refine sxo_pure rfl rfl rfl trivial ?_
          refine sxo_end ?_
          refine sx_retL hret hro hk (.tmp rfl .nil) ⟨by simp only [oddC, h5, h9, h12, h17]; rfl, rfl⟩ (by exact .nil)
        · refine sxo_pure rfl rfl rfl trivial ?_
          refine sxo_pure rfl rfl rfl trivial ?_
          refine sxo_pure rfl rfl rfl trivial ?_
          refine sxo_pure rfl rfl rfl trivial ?_
          refine sxo_split (t := 21) rfl (fun h21 => ?_) (fun h21 => ?_)
          · refine sxo_pass rfl rfl rfl ?_
            refine sxo_pass rfl rfl rfl ?_
            refine sxo_pure rfl rfl rfl trivial ?_
            refine sxo_pure rfl rfl rfl trivial ?_
            refine sxo_pure rfl rfl rfl trivial ?_
            refine sxo_end ?_
            refine sx_retL hret hro hk (.tmp rfl .nil) ⟨by simp only [oddC, h5, h9, h12, h17, h21]; rfl, rfl⟩ (by exact .nil)
          · refine sxo_pure rfl rfl rfl trivial ?_
            refine sxo_pure rfl rfl rfl trivial ?_
            refine sxo_pure rfl rfl rfl trivial ?_
            refine sxo_pure rfl rfl rfl trivial ?_
            refine sxo_pure rfl rfl rfl trivial ?_
            refine sxo_end ?_
            refine sx_retL hret hro hk (.tmp rfl .nil) ⟨by simp only [oddC, h5, h9, h12, h17, h21]; rfl, rfl⟩ (by exact .nil)
      · refine sxo_pass rfl rfl rfl ?_
        refine sxo_pass rfl rfl rfl ?_
        refine sxo_pure rfl rfl rfl trivial ?_
        refine sxo_pure rfl rfl rfl trivial ?_
        refine sxo_pure rfl rfl rfl trivial ?_
        refine sxo_pure rfl rfl rfl trivial ?_
        refine sxo_pure rfl rfl rfl trivial ?_
        refine sxo_pure rfl rfl rfl trivial ?_
        refine sxo_pure rfl rfl rfl trivial ?_
        refine sxo_split (t := 21) rfl (fun h21 => ?_) (fun h21 => ?_)
        · refine sxo_pass rfl rfl rfl ?_
          refine sxo_pass rfl rfl rfl ?_
          refine sxo_pure rfl rfl rfl trivial ?_
          refine sxo_pure rfl rfl rfl trivial ?_
          refine sxo_pure rfl rfl rfl trivial ?_
          refine sxo_end ?_
          refine sx_retL hret hro hk (.tmp rfl .nil) ⟨by simp only [oddC, h5, h9, h12, h21]; rfl, rfl⟩ (by exact .nil)
        · refine sxo_pure rfl rfl rfl trivial ?_
          refine sxo_pure rfl rfl rfl trivial ?_
          refine sxo_pure rfl rfl rfl trivial ?_
          refine sxo_pure rfl rfl rfl trivial ?_
          refine sxo_pure rfl rfl rfl trivial ?_
          refine sxo_end ?_
          refine sx_retL hret hro hk (.tmp rfl .nil) ⟨by simp only [oddC, h5, h9, h12, h21]; rfl, rfl⟩ (by exact .nil)
  · refine sxo_pass rfl rfl rfl ?_
    refine sxo_pass rfl rfl rfl ?_
    refine sxo_pure rfl rfl rfl trivial ?_
    refine sxo_pure rfl rfl rfl trivial ?_
    refine sxo_pure rfl rfl rfl trivial ?_
    refine sxo_pure rfl rfl rfl trivial ?_
    refine sxo_pure rfl rfl rfl trivial ?_
    refine sxo_split (t := 12) rfl (fun h12 => ?_) (fun h12 => ?_)
    · refine sxo_pure rfl rfl rfl trivial ?_
      refine sxo_pure rfl rfl rfl trivial ?_
      refine sxo_pure rfl rfl rfl trivial ?_
      refine sxo_pure rfl rfl rfl trivial ?_
      refine sxo_pure rfl rfl rfl trivial ?_
      refine sxo_split (t := 17) rfl (fun h17 => ?_) (fun h17 => ?_)
      · refine sxo_pass rfl rfl rfl ?_
        refine sxo_pass rfl rfl rfl ?_
        refine sxo_pure rfl rfl rfl trivial ?_
        refine sxo_pure rfl rfl rfl trivial ?_
        refine sxo_pass rfl rfl rfl ?_
        refine sxo_pass rfl rfl rfl ?_
        refine sxo_pure rfl rfl rfl trivial ?_
        refine sxo_pure rfl rfl rfl trivial ?_
        refine sxo_pure rfl rfl rfl trivial ?_
        refine sxo_end ?_
        refine sx_retL hret hro hk (.tmp rfl .nil) ⟨by simp only [oddC, h5, h12, h17]; rfl, rfl⟩ (by exact .nil)
      · refine sxo_pure rfl rfl rfl trivial ?_
        refine sxo_pure rfl rfl rfl trivial ?_
        refine sxo_pure rfl rfl rfl trivial ?_
        refine sxo_pure rfl rfl rfl trivial ?_
        refine sxo_split (t := 21) rfl (fun h21 => ?_) (fun h21 => ?_)
        · refine sxo_pass rfl rfl rfl ?_
          refine sxo_pass rfl rfl rfl ?_
          refine sxo_pure rfl rfl rfl trivial ?_
          refine sxo_pure rfl rfl rfl trivial ?_
          refine sxo_pure rfl rfl rfl trivial ?_
          refine sxo_end ?_
          refine sx_retL hret hro hk (.tmp rfl .nil) ⟨by simp only [oddC, h5, h12, h17, h21]; rfl, rfl⟩ (by exact .nil)
        · refine sxo_pure rfl rfl rfl trivial ?_
          refine sxo_pure rfl rfl rfl trivial ?_
          refine sxo_pure rfl rfl rfl trivial ?_
          refine sxo_pure rfl rfl rfl trivial ?_
          refine sxo_pure rfl rfl rfl trivial ?_
          refine sxo_end ?_
          refine sx_retL hret hro hk (.tmp rfl .nil) ⟨by simp only [oddC, h5, h12, h17, h21]; rfl, rfl⟩ (by exact .nil)
    · refine sxo_pass rfl rfl rfl ?_
      refine sxo_pass rfl rfl rfl ?_
      refine sxo_pure rfl rfl rfl trivial ?_
      refine sxo_pure rfl rfl rfl trivial ?_
      refine sxo_pure rfl rfl rfl trivial ?_
      refine sxo_pure rfl rfl rfl trivial ?_
      refine sxo_pure rfl rfl rfl trivial ?_
      refine sxo_pure rfl rfl rfl trivial ?_
      refine sxo_pure rfl rfl rfl trivial ?_
      refine sxo_split (t := 21) rfl (fun h21 => ?_) (fun h21 => ?_)
      · refine sxo_pass rfl rfl rfl ?_
        refine sxo_pass rfl rfl rfl ?_
        refine sxo_pure rfl rfl rfl trivial ?_
        refine sxo_pure rfl rfl rfl trivial ?_
        refine sxo_pure rfl rfl rfl trivial ?_
        refine sxo_end ?_
        refine sx_retL hret hro hk (.tmp rfl .nil) ⟨by simp only [oddC, h5, h12, h21]; rfl, rfl⟩ (by exact .nil)
      · refine sxo_pure rfl rfl rfl trivial ?_
        refine sxo_pure rfl rfl rfl trivial ?_
        refine sxo_pure rfl rfl rfl trivial ?_
        refine sxo_pure rfl rfl rfl trivial ?_
        refine sxo_pure rfl rfl rfl trivial ?_
        refine sxo_end ?_
        refine sx_retL hret hro hk (.tmp rfl .nil) ⟨by simp only [oddC, h5, h12, h21]; rfl, rfl⟩ (by exact .nil)
end Go.SX

namespace Go.SX
open Go.Proofs
attribute [local irreducible] SX SXo
def goodS (s : ByteArray) : Bool := decide (1 ≤ s.size) && (decide (s.size ≤ 80) && !(s.data.toList.any oddC))
theorem filesRight_ok (K : Hp) (b : Nat) (l : List ByteArray) (hg : ∀ s ∈ l, goodS s = true) (hl : l.length ≤ 100) : TR Tryz.prog K 212 [.o (.slice (some ⟨b, 0, none⟩) l.length l.length)] [.blk b 9 (l.flatMap encS)]
    fun v r => v = .s (.o (.bool true)) ∧ r = [.blk b 9 (l.flatMap encS)] := by
  have hv : Reads K [.blk b 9 (l.flatMap encS)] ⟨some ⟨b, 0, none⟩, l.length, l.length⟩ 9 1 encS l := Reads.blk .head rfl rfl (fun _ _ => rfl)
  refine tr_intro Tryz.func212 rfl rfl rfl fun cx hro hk hret => ?_
  refine sx_seq ?_
  refine sx_region ?_
  refine sxo_pure rfl rfl rfl trivial ?_
  refine sxo_end ?_
  refine sx_seq ?_
  refine sx_region ?_
  refine sxo_pure rfl rfl rfl trivial ?_
  refine sxo_end ?_
  refine sx_seq ?_
  refine sx_seq ?_
  refine sx_region ?_
  refine sxo_pure rfl rfl rfl trivial ?_
  refine sxo_len rfl rfl rfl rfl rfl (by assumption) rfl rfl ?_
  refine sxo_pure rfl rfl rfl trivial ?_
  refine sxo_end ?_
  refine sx_block ?_
  refine sx_less (by refine .cons rfl ?_; refine .cons rfl ?_; refine .cons rfl ?_; refine .cons rfl ?_; exact .nil _) (by (apply Take.cons; focus exact .head); exact .nil) (sx_loopI (γ := Nat) (fun x => x ≤ l.length) (fun x => l.length - x) (fun x => [(3, .s (.o (.func (.func 312) #[] #[]))), (6, .s (.o (.slice (some ⟨b, 0, none⟩) l.length l.length))), (7, .s (.o (.int .i64 l.length))), (8, .s (.o (.int .i64 x)))]) (fun _ => [.blk b 9 (l.flatMap encS)]) (0) (by omega) ?_)
  rintro j hj ih
  refine sx_seq ?_
  refine sx_region ?_
  refine sxo_pure rfl rfl rfl trivial ?_
  refine sxo_end ?_
  refine sx_seq ?_
  refine sx_cond rfl (fun h => ?_) (fun h => ?_)
  · simp at h
    refine sx_skip ?_
    refine sx_seq ?_
    refine sx_block ?_
    refine sx_seq ?_
    refine sx_region ?_
    refine sxo_indexAddr rfl rfl rfl rfl rfl rfl rfl hv (by omega) rfl (fun _ _ => ?_)
    refine sxo_loadEl0 rfl rfl rfl .head hv.skip rfl (by omega) (fun _ => rfl) rfl rfl (fun x hx => ?_)
    simp at hx
    have hgx := hg x (List.mem_of_getElem? hx)
    simp only [goodS, Bool.and_eq_true, decide_eq_true_eq, Bool.not_eq_true'] at hgx
    obtain ⟨hg1, hg2, hg3⟩ := hgx
    refine sxo_pure rfl rfl rfl trivial ?_
    refine sxo_end ?_
    refine sx_seq ?_
    refine sx_region ?_
    refine sxo_pure rfl rfl rfl trivial ?_
    refine sxo_lenS rfl rfl rfl rfl rfl rfl rfl ?_
    refine sxo_pure rfl rfl rfl trivial ?_
    refine sxo_pure rfl rfl rfl trivial ?_
    refine sxo_split (t := 15) rfl (fun h1 => ?_) (fun h1 => ?_)
    · simp at h1; omega
    refine sxo_pure rfl rfl rfl trivial ?_
    refine sxo_lenS rfl rfl rfl rfl rfl rfl rfl ?_
    refine sxo_pure rfl rfl rfl trivial ?_
    refine sxo_pure rfl rfl rfl trivial ?_
    refine sxo_pure rfl rfl rfl trivial ?_
    refine sxo_split (t := 20) rfl (fun h2 => ?_) (fun h2 => ?_)
    · simp at h2; omega
    refine sxo_pure rfl rfl rfl trivial ?_
    refine sxo_s2b rfl rfl rfl rfl rfl rfl rfl rfl rfl rfl rfl (fun _ _ => ?_)
    refine sxo_pure rfl rfl rfl trivial ?_
    rename_i p1 c1
    refine sxo_call0 rfl rfl rfl rfl (by (apply Take.cons; focus exact .head); exact .nil) (fun Kc hK hB => CtsByte_ok Kc [rdE ⟨p1, x.size, c1⟩ 5 1 encB x.data.toList] p1 x.size c1 _ _ oddC (fun _ _ => Reads.of .head) (by simp; have : x.data.size = x.size := rfl; omega) (Looks.of0 filesRight1_ok)) rfl rfl ?_ (hH := by rintro v m ⟨rfl, rfl⟩; (exact hh_nil))
    rintro v m ⟨rfl, rfl⟩
    simp only [List.cons_append, List.nil_append, List.append_nil, resV]
    rw [hg3]
    refine sxo_pure rfl rfl rfl trivial ?_
    refine sxo_end ?_
    refine sx_condF rfl ?_
    refine sx_skip ?_
    refine sx_inBlock ?_
    refine sx_region ?_
    refine sxo_pure rfl rfl rfl (by omega) ?_
    refine sxo_pure rfl rfl rfl trivial ?_
    refine sxo_end ?_
    refine sx_less (by refine .cons rfl ?_; refine .cons rfl ?_; refine .cons rfl ?_; refine .cons rfl ?_; exact .nil _) (by (apply Take.cons; focus exact .tail (.tail .head)); exact .nil) (ih (j + 1) (by omega) (by omega))
  · refine sx_exit rfl ?_
    refine sx_seq ?_
    refine sx_region ?_
    refine sxo_pure rfl rfl rfl trivial ?_
    refine sxo_end ?_
    refine sx_retL hret hro hk (.tmp rfl .nil) ⟨rfl, rfl⟩ (by (apply Take.cons; focus exact .head); exact .nil)
theorem meet_ok (K : Hp) (bd : Nat) (room : Int) (bm : Nat) (st wr : Sl) : TR Tryz.prog K 119 [evPtr bd, .o (.bool true)] [.blk bd 62 (diskCh room bm st wr)]
    fun v r => v = .s (.o (.int .i64 0)) ∧ r = [.blk bd 62 (diskCh room bm st wr)] := by
  refine tr_intro Tryz.func119 rfl rfl rfl fun cx hro hk hret => ?_
  refine sx_seq ?_
  refine sx_region ?_
  refine sxo_pure rfl rfl rfl trivial ?_
  refine sxo_end ?_
  refine sx_seq ?_
  refine sx_block ?_
  refine sx_seq ?_
  refine sx_region ?_
  refine sxo_pure rfl rfl rfl trivial ?_
  refine sxo_pure rfl rfl rfl trivial ?_
  refine sxo_pure rfl rfl rfl trivial ?_
  refine sxo_end ?_
  refine sx_condF rfl ?_
  refine sx_seq ?_
  refine sx_region ?_
  refine sxo_pure rfl rfl rfl trivial ?_
  refine sxo_pure rfl rfl rfl trivial ?_
  refine sxo_pure rfl rfl rfl trivial ?_
  refine sxo_load rfl rfl rfl (by exact .head) rfl rfl rfl rfl ?_
  refine sxo_pure rfl rfl rfl trivial ?_
  refine sxo_end ?_
  refine sx_condF rfl ?_
  refine sx_seq ?_
  refine sx_region ?_
  refine sxo_pure rfl rfl rfl trivial ?_
  refine sxo_pure rfl rfl rfl trivial ?_
  refine sxo_pure rfl rfl rfl trivial ?_
  refine sxo_load rfl rfl rfl (by exact .head) rfl rfl rfl rfl ?_
  refine sxo_lenV rfl rfl rfl rfl rfl rfl rfl ?_
  refine sxo_pure rfl rfl rfl trivial ?_
  refine sxo_pure rfl rfl rfl trivial ?_
  refine sxo_end ?_
  refine sx_condT rfl ?_
  refine sx_seq ?_
  refine sx_region ?_
  refine sxo_pure rfl rfl rfl trivial ?_
  refine sxo_end ?_
  refine sx_retL hret hro hk (.tmp rfl .nil) ⟨rfl, rfl⟩ (by (apply Take.cons; focus exact .head); exact .nil)
theorem find_ok (K : Hp) (bd : Nat) (room : Int) (bm : Nat) (st wr : Sl) (names : List (ByteArray × Option Nat)) (name : ByteArray) (f : Nat) (h : mget names name = some (some f)) : TR Tryz.prog K 211 [evPtr bd, .o (.string name), .o (.bool true)] [.blk bd 62 (diskCh room bm st wr), .map bm ekStr evPO names]
    fun v r => v = .t [evPtr f, .o (.int .i64 0)] ∧ r = [.blk bd 62 (diskCh room bm st wr), .map bm ekStr evPO names] := by
  refine tr_intro Tryz.func211 rfl rfl rfl fun cx hro hk hret => ?_
  refine sx_seq ?_
  refine sx_region ?_
  refine sxo_pure rfl rfl rfl trivial ?_
  refine sxo_pure rfl rfl rfl trivial ?_
  refine sxo_end ?_
  refine sx_seq ?_
  refine sx_seq ?_
  refine sx_region ?_
  refine sxo_pure rfl rfl rfl trivial ?_
  refine sxo_pure rfl rfl rfl trivial ?_
  refine sxo_call0 rfl rfl rfl rfl (by (apply Take.cons; focus exact .head); exact .nil) (fun Kc hK hB => meet_ok Kc bd room bm st wr) rfl rfl ?_ (hH := by rintro v m ⟨rfl, rfl⟩; (exact hh_nil))
  rintro v m ⟨rfl, rfl⟩
  simp only [List.cons_append, List.nil_append, List.append_nil, resV]
  refine sxo_pure rfl rfl rfl trivial ?_
  refine sxo_end ?_
  refine sx_seq ?_
  refine sx_region ?_
  refine sxo_pure rfl rfl rfl trivial ?_
  refine sxo_pure rfl rfl rfl trivial ?_
  refine sxo_end ?_
  refine sx_condF rfl ?_
  refine sx_skip ?_
  refine sx_seq ?_
  refine sx_region ?_
  refine sxo_pure rfl rfl rfl trivial ?_
  refine sxo_pure rfl rfl rfl trivial ?_
  refine sxo_pure rfl rfl rfl trivial ?_
  refine sxo_load rfl rfl rfl (by exact .head) rfl rfl rfl rfl ?_
  refine sxo_pure rfl rfl rfl trivial ?_
  refine sxo_lookupOk ekStr _ HasZ.z rfl rfl rfl rfl (by exact .tail .head) rfl rfl (kt_str rfl rfl) rfl rfl rfl rfl rfl ?_
  refine sxo_pure rfl rfl rfl trivial ?_
  refine sxo_pure rfl rfl rfl trivial ?_
  refine sxo_pure rfl rfl rfl trivial ?_
  refine sxo_pure rfl rfl rfl trivial ?_
  refine sxo_pure rfl rfl rfl trivial ?_
  refine sxo_end ?_
  refine sx_seq ?_
  refine sx_seq ?_
  refine sx_region ?_
  refine sxo_pure rfl rfl rfl trivial ?_
  refine sxo_pure rfl rfl rfl trivial ?_
  refine sxo_end ?_
  rw [h]
  refine sx_condF rfl ?_
  refine sx_skip ?_
  refine sx_seq ?_
  refine sx_region ?_
  refine sxo_pure rfl rfl rfl trivial ?_
  refine sxo_pure rfl rfl rfl trivial ?_
  refine sxo_pure rfl rfl rfl trivial ?_
  refine sxo_end ?_
  refine sx_retL hret hro hk (.tmp rfl (.tmp rfl .nil)) ⟨rfl, rfl⟩ (by (apply Take.cons; focus exact .head); (apply Take.cons; focus exact .head); exact .nil)
theorem mapsClone_ok (K : Hp) (bm : Nat) (names : List (ByteArray × Option Nat)) : TR Tryz.prog K 314 [.o (.map (some bm))] [.map bm ekStr evPO names]
    fun v r => ∃ b', v = .s (.o (.map (some b'))) ∧ r = [.map b' ekStr evPO names, .map bm ekStr evPO names] := by
  refine tr_intro Tryz.func314 rfl rfl rfl fun cx hro hk hret => ?_
  refine sx_seq ?_
  refine sx_region ?_
  refine sxo_pure rfl rfl rfl trivial ?_
  refine sxo_end ?_
  refine sx_seq ?_
  refine sx_seq ?_
  refine sx_region ?_
  refine sxo_pure rfl rfl rfl trivial ?_
  refine sxo_eqMap rfl rfl rfl rfl rfl rfl rfl ?_
  refine sxo_end ?_
  refine sx_condF rfl ?_
  refine sx_skip ?_
  refine sx_seq ?_
  refine sx_region ?_
  refine sxo_pure rfl rfl rfl trivial ?_
  refine sxo_mkIface rfl rfl rfl rfl rfl rfl rfl ?_
  refine sxo_mapsClone (ek := ekStr) (ev' := evPO) (m := names) (fn := Tryz.f387) rfl rfl rfl rfl Tryz.func387 rfl rfl (by kernel_rfl) (by kernel_rfl) (by exact .head) rfl rfl (fun b' => ?_)
  refine sxo_assertMap rfl rfl rfl rfl rfl rfl rfl ?_
  refine sxo_pure rfl rfl rfl trivial ?_
  refine sxo_end ?_
  refine sx_retL hret hro hk (.tmp rfl .nil) ⟨_, rfl, rfl⟩ (by (apply Take.cons; focus exact .head); (apply Take.cons; focus exact .head); exact .nil)
end Go.SX

namespace Go.SX
open Go.Proofs
attribute [local irreducible] SX SXo
set_option maxRecDepth 20000
theorem change_ok (K : Hp) (bd : Nat) (room : Int) (bm : Nat) (st wr : Sl) (sts : List Nat) (names : List (ByteArray × Option Nat)) (Y : Value) (M : List Ent) (Qc : List (ByteArray × Option Nat) → List Ent → Prop) (hs : sts.length ≤ 1000)
    (hY : ∀ Kc, Sub K Kc → ∀ b', TRV Tryz.prog Kc Y [.o (.map (some b'))] (.map b' ekStr evPO names :: M) fun _ m => ∃ names' M', Qc names' M' ∧ m = .map b' ekStr evPO names' :: M') :
    TR Tryz.prog K 213 [evPtr bd, .o Y] (.blk bd 62 (diskCh room bm st wr) :: .map bm ekStr evPO names :: .vec st 58 1 encMp sts :: M)
    fun _ r => ∃ b' st' sts' names' M', Qc names' M' ∧ sts'.length = sts.length + 1 ∧ r = .blk bd 62 (diskCh room b' st' wr) :: .map b' ekStr evPO names' :: .vec st' 58 1 encMp sts' :: M' := by
  refine tr_intro Tryz.func213 rfl rfl rfl fun cx hro hk hret => ?_
  refine sx_seq ?_
  refine sx_region ?_
  refine sxo_pure rfl rfl rfl trivial ?_
  refine sxo_pure rfl rfl rfl trivial ?_
  refine sxo_pure rfl rfl rfl trivial ?_
  refine sxo_pure rfl rfl rfl trivial ?_
  refine sxo_load rfl rfl rfl (by exact .head) rfl rfl rfl rfl ?_
  refine sxo_call0 rfl rfl rfl rfl (by (apply Take.cons; focus exact .tail .head); exact .nil) (fun Kc hK hB => mapsClone_ok Kc bm names) rfl rfl ?_ (hH := by rintro v m ⟨b', rfl, rfl⟩; (exact hh_nil))
  rintro v m ⟨b', rfl, rfl⟩
  simp only [List.cons_append, List.nil_append, List.append_nil, resV]
  refine sxo_pure rfl rfl rfl trivial ?_
  refine sxo_pure rfl rfl rfl trivial ?_
  refine sxo_store rfl rfl rfl rfl (by exact .tail (.tail .head)) rfl rfl rfl rfl rfl ?_
  refine sxo_end ?_
  refine sx_seq ?_
  refine sx_region ?_
  refine sxo_pure rfl rfl rfl trivial ?_
  refine sxo_pure rfl rfl rfl trivial ?_
  refine sxo_pure rfl rfl rfl trivial ?_
  refine sxo_pure rfl rfl rfl trivial ?_
  refine sxo_load rfl rfl rfl (by exact .head) rfl rfl rfl rfl ?_
  refine sxo_callVR rfl rfl rfl rfl (.cons (.tail .head) (.skip (.skip (.skip .all)))) rfl rfl (fun Kc hK _ => hY Kc hK b') ?_
  rintro v m ⟨names', M', hq, rfl⟩
  simp only [List.cons_append, List.nil_append]
  refine sxo_end ?_
  refine sx_drawN 2 (by kernel_rfl) [0, 1, 2, 3, 4, 5, 6, 7, 8, 9, 10, 11, 12, 13] [(4, 9)] (by kernel_rfl) ?_
  refine sxo_pure rfl rfl rfl trivial ?_
  refine sxo_pure rfl rfl rfl trivial ?_
  refine sxo_pure rfl rfl rfl trivial ?_
  refine sxo_pure rfl rfl rfl trivial ?_
  refine sxo_loadF rfl rfl rfl (by exact .head) rfl rfl rfl ?_
  refine sxo_pure rfl rfl rfl trivial ?_
  refine sxo_pure rfl rfl rfl trivial ?_
  refine sxo_pure rfl rfl rfl trivial ?_
  refine sxo_load rfl rfl rfl (by exact .head) rfl rfl rfl rfl ?_
  refine sxo_buildSlice rfl rfl rfl rfl rfl rfl rfl rfl rfl rfl rfl rfl rfl (fun _ => ?_)
  refine sxo_append (lx := [b']) rfl rfl rfl rfl rfl rfl rfl rfl rfl rfl (by exact .tail (.tail (.tail .head))) (Reads.one (by exact .head) rfl rfl) (fun _ => rfl) rfl rfl rfl (by simp; omega) (fun p2 n2 c2 => ?_)
  refine sxo_pure rfl rfl rfl trivial ?_
  refine sxo_pure rfl rfl rfl trivial ?_
  refine sxo_store rfl rfl rfl rfl (by exact .tail (.tail .head)) rfl rfl rfl rfl rfl ?_
  refine sxo_end ?_
  refine sx_endL hret hro hk .nil ⟨_, ⟨_, _, _⟩, sts ++ [b'], names', M', hq, by simp, rfl⟩ (.cons .head (.cons (.tail (.tail (.tail .head))) (.cons .head (.skip (.skip .all)))))
theorem Create1_ok (K : Hp) (b' bn : Nat) (names : List (ByteArray × Option Nat)) (name : ByteArray) : TR Tryz.prog K 238 [.o (.map (some b')), evPtr bn] [.map b' ekStr evPO names, .blk bn 9 [.c (.string name)]]
    fun _ r => ∃ f, r = [.map b' ekStr evPO (mput names name (some f)), .blk bn 9 [.c (.string name)], .blk f 326 (fileCh ⟨none, 0, 0⟩ ⟨none, 0, 0⟩)] := by
  refine tr_intro Tryz.func238 rfl rfl rfl fun cx hro hk hret => ?_
  refine sx_region ?_
  refine sxo_pure rfl rfl rfl trivial ?_
  refine sxo_load rfl rfl rfl (by exact .tail .head) rfl rfl rfl rfl ?_
  refine sxo_build rfl rfl rfl rfl rfl rfl rfl rfl rfl ?_
  refine sxo_box rfl rfl rfl rfl rfl rfl (fun _ => ?_)
  rename_i f
  refine sxo_update ekStr _ (v := some f) (.inl rfl) rfl rfl rfl rfl (by exact .tail .head) rfl rfl (kt_str rfl rfl) rfl rfl ?_
  refine sxo_end ?_
  refine sx_endL hret hro hk .nil ⟨f, rfl⟩ (by (apply Take.cons; focus exact .head); (apply Take.cons; focus exact .tail .head); (apply Take.cons; focus exact .head); exact .nil)
theorem Create_ok (K : Hp) (bd : Nat) (room : Int) (bm : Nat) (st wr : Sl) (sts : List Nat) (names : List (ByteArray × Option Nat)) (name : ByteArray) (hg : goodS name = true) (hs : sts.length ≤ 1000) (hn : names.length < 200) (hno : mget names name = none) :
    TR Tryz.prog K 137 [evPtr bd, .o (.string name)] [.blk bd 62 (diskCh room bm st wr), .map bm ekStr evPO names, .vec st 58 1 encMp sts]
    fun v r => ∃ b' st' sts' f, v = .s (.o (.int .i64 0)) ∧ sts'.length = sts.length + 1 ∧ r = [.blk bd 62 (diskCh room b' st' wr), .map b' ekStr evPO (mput names name (some f)), .vec st' 58 1 encMp sts', .blk f 326 (fileCh ⟨none, 0, 0⟩ ⟨none, 0, 0⟩)] := by
  refine tr_intro Tryz.func137 rfl rfl rfl fun cx hro hk hret => ?_
  refine sx_seq ?_
  refine sx_region ?_
  refine sxo_box rfl rfl rfl rfl rfl rfl (fun _ => ?_)
  refine sxo_pure rfl rfl rfl trivial ?_
  refine sxo_end ?_
  refine sx_seq ?_
  refine sx_seq ?_
  refine sx_region ?_
  refine sxo_pure rfl rfl rfl trivial ?_
  refine sxo_load rfl rfl rfl (by exact .head) rfl rfl rfl rfl ?_
  refine sxo_buildSlice rfl rfl rfl rfl rfl rfl rfl rfl rfl rfl rfl rfl rfl (fun _ => ?_)
  refine sxo_call0 rfl rfl rfl rfl (by (apply Take.cons; focus exact .head); exact .nil) (fun Kc hK hB => filesRight_ok Kc _ [name] (by simpa using hg) (by simp)) rfl rfl ?_ (hH := by rintro v m ⟨rfl, rfl⟩; (exact hh_nil))
  rintro v m ⟨rfl, rfl⟩
  simp only [List.cons_append, List.nil_append, List.append_nil, resV]
  skip
  refine sxo_call0 rfl rfl rfl rfl (by (apply Take.cons; focus exact .tail (.tail .head)); exact .nil) (fun Kc hK hB => meet_ok Kc bd room bm st wr) rfl rfl ?_ (hH := by rintro v m ⟨rfl, rfl⟩; (exact hh_nil))
  rintro v m ⟨rfl, rfl⟩
  simp only [List.cons_append, List.nil_append, List.append_nil, resV]
  refine sxo_pure rfl rfl rfl trivial ?_
  refine sxo_end ?_
  refine sx_seq ?_
  refine sx_region ?_
  refine sxo_pure rfl rfl rfl trivial ?_
  refine sxo_pure rfl rfl rfl trivial ?_
  refine sxo_end ?_
  refine sx_condF rfl ?_
  refine sx_skip ?_
  refine sx_seq ?_
  refine sx_seq ?_
  refine sx_drawN 4 (by kernel_rfl) [0, 1, 2, 3, 4, 5, 6, 7, 8, 9, 10] [] (by kernel_rfl) ?_
  refine sxo_pure rfl rfl rfl trivial ?_
  refine sxo_pure rfl rfl rfl trivial ?_
  refine sxo_pure rfl rfl rfl trivial ?_
  refine sxo_load rfl rfl rfl (by exact .head) rfl rfl rfl rfl ?_
  refine sxo_load rfl rfl rfl (by exact .tail (.tail .head)) rfl rfl rfl rfl ?_
  refine sxo_lookupOk ekStr _ HasZ.z rfl rfl rfl rfl (by exact .tail (.tail (.tail .head))) rfl rfl (kt_str rfl rfl) rfl rfl rfl rfl rfl ?_
  refine sxo_pure rfl rfl rfl trivial ?_
  refine sxo_pure rfl rfl rfl trivial ?_
  refine sxo_pure rfl rfl rfl trivial ?_
  refine sxo_pure rfl rfl rfl trivial ?_
  refine sxo_pure rfl rfl rfl trivial ?_
  refine sxo_end ?_
  refine sx_seq ?_
  refine sx_region ?_
  refine sxo_pure rfl rfl rfl trivial ?_
  refine sxo_end ?_
  rw [hno]
  refine sx_condF rfl ?_
  refine sx_skip ?_
  refine sx_seq ?_
  refine sx_seq ?_
  refine sx_region ?_
  refine sxo_pure rfl rfl rfl trivial ?_
  refine sxo_pure rfl rfl rfl trivial ?_
  refine sxo_pure rfl rfl rfl trivial ?_
  refine sxo_load rfl rfl rfl (by exact .head) rfl rfl rfl rfl ?_
  refine sxo_lenMap rfl rfl rfl (by exact .tail (.tail (.tail .head))) rfl rfl rfl rfl ?_
  refine sxo_pure rfl rfl rfl trivial ?_
  refine sxo_end ?_
  refine sx_cond rfl (fun h => ?_) (fun h => ?_)
  · simp at h; omega
  refine sx_skip ?_
  refine sx_seq ?_
  refine sx_region ?_
  refine sxo_pure rfl rfl rfl trivial ?_
  refine sxo_pure rfl rfl rfl trivial ?_
  rename_i bn bs
  have hYY : ∀ Kd b', TRV Tryz.prog Kd (.func (.func 238) #[] #[.pointer (some ⟨bn, 0, none⟩)]) [.o (.map (some b'))] [.map b' ekStr evPO names, .blk bn 9 [.c (.string name)]] fun _ m => ∃ names' M', (∃ f, names' = mput names name (some f) ∧ M' = [.blk bn 9 [.c (.string name)], .blk f 326 (fileCh ⟨none, 0, 0⟩ ⟨none, 0, 0⟩)]) ∧ m = .map b' ekStr evPO names' :: M' := by
    intro Kd b'
    refine TRV.mono (TR.val (Create1_ok Kd b' bn names name) rfl) ?_
    rintro v m ⟨f, hm⟩
    exact ⟨_, _, ⟨f, rfl, rfl⟩, hm⟩
  refine sxo_call0 rfl rfl rfl rfl (by (apply Take.cons; focus exact .head); (apply Take.cons; focus exact .tail (.tail .head)); (apply Take.cons; focus exact .tail (.tail .head)); (apply Take.cons; focus exact .tail .head); exact .nil) (fun Kc hK hB => change_ok Kc bd room bm st wr sts names (.func (.func 238) #[] #[.pointer (some ⟨bn, 0, none⟩)]) [.blk bn 9 [.c (.string name)]] (fun names' M' => ∃ f, names' = mput names name (some f) ∧ M' = [.blk bn 9 [.c (.string name)], .blk f 326 (fileCh ⟨none, 0, 0⟩ ⟨none, 0, 0⟩)]) hs (fun Kd _ b' => hYY Kd b')) rfl rfl ?_ (hH := by rintro v m ⟨b', st', sts', _, _, ⟨f, rfl, rfl⟩, hst, rfl⟩; (exact hh_nil))
  rintro v m ⟨b', st', sts', _, _, ⟨f, rfl, rfl⟩, hst, rfl⟩
  simp only [List.cons_append, List.nil_append, List.append_nil, resV]
  refine sxo_end ?_
  refine sx_seq ?_
  refine sx_region ?_
  refine sxo_pure rfl rfl rfl trivial ?_
  refine sxo_end ?_
  refine sx_retL hret hro hk (.tmp rfl .nil) ⟨_, _, _, f, rfl, hst, rfl⟩ (by (apply Take.cons; focus exact .head); (apply Take.cons; focus exact .head); (apply Take.cons; focus exact .head); (apply Take.cons; focus exact .tail .head); exact .nil)
end Go.SX
