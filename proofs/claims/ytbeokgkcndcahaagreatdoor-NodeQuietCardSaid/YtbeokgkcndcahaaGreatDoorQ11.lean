/-
  member: a view's moves.
  member: Probe, Gossip, New, Tick, Hear.
  More rules: what wraps.
  member: New, Tick, Hear.
-/
import Derived.Test.YtbeokgkcndcahaaGreatDoorQ10
import Derived.Test.YtbeokgkcndcahaaGreatDoorQ07
import Derived.Test.YtbeokgkcndcahaaGreatDoorQ08
set_option linter.all false
namespace Go.SX
open Go.Proofs
attribute [local irreducible] SX SXo
section
variable {κ ν : Type} [DecidableEq κ]
theorem mput_keys (m : List (κ × ν)) (k : κ) (v : ν) : (mput m k v).map (·.1) = if k ∈ m.map (·.1) then m.map (·.1) else m.map (·.1) ++ [k] := by
  induction m with
  | nil => simp [mput]
  | cons x m ih =>
    obtain ⟨a, b⟩ := x
    by_cases h : a = k
    · subst h; simp [mput]
    · have h' : ¬ k = a := fun e => h e.symm
      simp only [mput, h, if_false, List.map_cons, ih, List.mem_cons, h', false_or]
      split <;> simp
theorem mput_mem {m : List (κ × ν)} {k : κ} {v : ν} {x : κ × ν} (h : x ∈ mput m k v) : x ∈ m ∨ x = (k, v) := by
  induction m with
  | nil => simpa [mput] using h
  | cons y m ih =>
    obtain ⟨a, b⟩ := y
    by_cases e : a = k
    · simp only [mput, e, if_true, List.mem_cons] at h ⊢
      rcases h with h | h
      · exact .inr h
      · exact .inl (.inr h)
    · simp only [mput, e, if_false, List.mem_cons] at h ⊢
      rcases h with h | h
      · exact .inl (.inl h)
      · rcases ih h with h | h
        · exact .inl (.inr h)
        · exact .inr h
theorem mput_length (m : List (κ × ν)) (k : κ) (v : ν) : (mput m k v).length = if k ∈ m.map (·.1) then m.length else m.length + 1 := by
  have := congrArg List.length (mput_keys m k v)
  rw [List.length_map] at this
  rw [this]; split <;> simp
theorem mdel_keys (m : List (κ × ν)) (k : κ) : (mdel m k).map (·.1) = (m.map (·.1)).erase k := by
  induction m with
  | nil => rfl
  | cons x m ih =>
    obtain ⟨a, b⟩ := x
    by_cases h : a = k
    · subst h; simp [mdel]
    · simp [mdel, h, ih, List.erase_cons]
theorem mdel_mem {m : List (κ × ν)} {k : κ} {x : κ × ν} (h : x ∈ mdel m k) : x ∈ m := by
  induction m with
  | nil => simp [mdel] at h
  | cons y m ih =>
    obtain ⟨a, b⟩ := y
    by_cases e : a = k
    · simp only [mdel, e, if_true] at h; exact .tail _ h
    · simp only [mdel, e, if_false, List.mem_cons] at h ⊢
      rcases h with h | h
      · exact .inl h
      · exact .inr (ih h)
theorem mget_some {m : List (κ × ν)} {k : κ} {v : ν} (h : mget m k = some v) : (k, v) ∈ m := by
  induction m with
  | nil => simp [mget] at h
  | cons y m ih =>
    obtain ⟨a, b⟩ := y
    by_cases e : a = k
    · simp only [mget, e, if_true] at h; cases h; subst e; exact .head _
    · simp only [mget, e, if_false] at h; exact .tail _ (ih h)
theorem mget_mem {m : List (κ × ν)} {k : κ} (h : k ∈ m.map (·.1)) : ∃ v, mget m k = some v := by
  induction m with
  | nil => simp at h
  | cons y m ih =>
    obtain ⟨a, b⟩ := y
    by_cases e : a = k
    · simp [mget, e]
    · simp only [List.map_cons, List.mem_cons] at h
      rcases h with h | h
      · exact absurd h.symm e
      · simp only [mget, e, if_false]; exact ih h
end
theorem take_map_succ {α β : Type} {f : α → β} {l : List α} {i : Nat} {x : α} (h : l[i]? = some x) : (l.take (i + 1)).map f = (l.take i).map f ++ [f x] := by
  rw [List.take_add_one, h]; simp
/-- A view's members: under their ids, each once. -/
structure VOk (m : List (Int × Member)) : Prop where
  id : ∀ x ∈ m, x.2.id = x.1
  nd : (m.map (·.1)).Nodup
theorem VOk.nil : VOk [] := ⟨fun _ h => (List.not_mem_nil h).elim, List.nodup_nil⟩
theorem VOk.put {m : List (Int × Member)} (h : VOk m) {k : Int} {v : Member} (hv : v.id = k) : VOk (mput m k v) := by
  refine ⟨fun x hx => ?_, ?_⟩
  · rcases mput_mem hx with h1 | rfl
    · exact h.id x h1
    · exact hv
  · rw [mput_keys]
    split
    · exact h.nd
    · rename_i hn
      exact List.nodup_append.2 ⟨h.nd, by simp, fun a ha b hb => by simp at hb; subst hb; exact fun e => hn (e ▸ ha)⟩
theorem VOk.del {m : List (Int × Member)} (h : VOk m) (k : Int) : VOk (mdel m k) :=
  ⟨fun x hx => h.id x (mdel_mem hx), by rw [mdel_keys]; exact h.nd.erase k⟩
theorem VOk.get {m : List (Int × Member)} (h : VOk m) {k : Int} {v : Member} (hv : mget m k = some v) : v.id = k := h.id _ (mget_some hv)
theorem turn_ok (K : Hp) (bv bm : Nat) (self : Member) (most : Int) (m : List (Int × Member)) (id st now : Int) : TR Tryz.prog K 68 [evPtr bv, .o (.int .i64 id), .o (.int .i64 st), .o (.int .i64 now)] [.blk bv 143 (viewCh self most bm), .map bm ekInt evM m]
    fun _ r => r = [.blk bv 143 (viewCh self most bm), .map bm ekInt evM (mput m id { (mget m id).getD Member.z with state := st, since := now })] := by
  refine tr_intro Tryz.func68 rfl rfl rfl fun cx hro hk hret => ?_
  refine sx_seq ?_
  refine sx_region ?_
  refine sxo_pure rfl rfl rfl trivial ?_
  refine sxo_pure rfl rfl rfl trivial ?_
  refine sxo_pure rfl rfl rfl trivial ?_
  refine sxo_load rfl rfl rfl (by exact .head) rfl rfl rfl rfl ?_
  refine sxo_pure rfl rfl rfl trivial ?_
  refine sxo_lookup ekInt _ HasZ.z rfl rfl rfl rfl (by exact .tail .head) rfl rfl (kt_int rfl rfl) rfl rfl rfl rfl rfl ?_
  refine sxo_alloc rfl rfl rfl rfl rfl rfl (fun _ => ?_)
  refine sxo_store rfl rfl rfl rfl (by exact .head) rfl rfl rfl rfl rfl ?_
  refine sxo_end ?_
  refine sx_seq ?_
  refine sx_region ?_
  refine sxo_pure rfl rfl rfl trivial ?_
  refine sxo_pure rfl rfl rfl trivial ?_
  refine sxo_pure rfl rfl rfl trivial ?_
  refine sxo_store rfl rfl rfl rfl (by exact .head) rfl rfl rfl rfl rfl ?_
  refine sxo_pure rfl rfl rfl trivial ?_
  refine sxo_store rfl rfl rfl rfl (by exact .head) rfl rfl rfl rfl rfl ?_
  refine sxo_end ?_
  refine sx_draw (by kernel_rfl) [0, 1, 2, 3, 4, 5, 6] [] (by kernel_rfl) ?_
  refine sxo_pure rfl rfl rfl trivial ?_
  refine sxo_pure rfl rfl rfl trivial ?_
  refine sxo_pure rfl rfl rfl trivial ?_
  refine sxo_load rfl rfl rfl (by exact .tail .head) rfl rfl rfl rfl ?_
  refine sxo_pure rfl rfl rfl trivial ?_
  refine sxo_load rfl rfl rfl (by exact .head) rfl rfl rfl rfl ?_
  refine sxo_update ekInt _ (v := ({ (mget m id).getD Member.z with state := st, since := now } : Member)) (.inl rfl) rfl rfl rfl rfl (by exact .tail (.tail .head)) rfl rfl (kt_int rfl rfl) rfl rfl ?_
  refine sxo_end ?_
  refine sx_endL hret hro hk .nil rfl (by (apply Take.cons; focus exact .tail (.tail .head)); (apply Take.cons; focus exact .head); exact .nil)
theorem All_ok (K : Hp) (bv bm : Nat) (self : Member) (most : Int) (m : List (Int × Member)) (hm : m.length ≤ 1000000) : TR Tryz.prog K 36 [evPtr bv] [.blk bv 143 (viewCh self most bm), .map bm ekInt evM m]
    fun v r => ∃ p n c, ∃ ks : List Int, ks.Perm (m.map (·.1)) ∧ v = .s (.o (.slice p n c)) ∧ r = [.vec ⟨p, n, c⟩ 101 4 encM (ks.map fun k => (mget m k).getD Member.z), .blk bv 143 (viewCh self most bm), .map bm ekInt evM m] := by
  refine tr_intro Tryz.func36 rfl rfl rfl fun cx hro hk hret => ?_
  refine sx_seq ?_
  refine sx_region ?_
  refine sxo_pure rfl rfl rfl trivial ?_
  refine sxo_end ?_
  refine sx_seq ?_
  refine sx_region ?_
  refine sxo_pure rfl rfl rfl trivial ?_
  refine sxo_end ?_
  refine sx_seq ?_
  refine sx_seq ?_
  refine sx_region ?_
  refine sxo_pure rfl rfl rfl trivial ?_
  refine sxo_pure rfl rfl rfl trivial ?_
  refine sxo_pure rfl rfl rfl trivial ?_
  refine sxo_load rfl rfl rfl (by exact .head) rfl rfl rfl rfl ?_
  refine sxo_call0 rfl rfl rfl rfl (by exact .nil) (fun Kc hK hB => KeysMember_ok Kc bm) rfl rfl ?_ (hH := by rintro v m ⟨bx, rfl, rfl⟩; (exact hh_nil))
  rintro v m ⟨bx, rfl, rfl⟩
  simp only [List.cons_append, List.nil_append, List.append_nil, resV]
  skip
  refine sxo_call0 rfl rfl rfl rfl (by (apply Take.cons; focus exact .head); (apply Take.cons; focus exact .tail .head); exact .nil) (fun Kc hK hB => SortedInt_ok Kc _ [.o (.pointer (some ⟨bx, 0, none⟩))] _ _ _ (by omega) (fun l hl => by rw [hl.length_eq]; simp; omega) (KeysMember_seq Kc bx bm m)) rfl rfl ?_ (hH := by rintro v m ⟨p, n, c, l, hl, rfl, rfl⟩; (exact hh_nil))
  rintro v m ⟨p, n, c, l, hl, rfl, rfl⟩
  simp only [List.cons_append, List.nil_append, List.append_nil, resV]
  refine sxo_len rfl rfl rfl rfl rfl (by exact Reads.own (by exact .head)) rfl rfl ?_
  refine sxo_pure rfl rfl rfl trivial ?_
  refine sxo_end ?_
  refine sx_block ?_
  have hks : (l.mergeSort le_).Perm (m.map (·.1)) := (List.mergeSort_perm l le_).trans hl
  generalize l.mergeSort le_ = ks at hks
  have hkl : ks.length = m.length := by simpa using hks.length_eq
  refine sx_nilVec encM 101 4 ?_
  refine sx_less (by refine .cons rfl ?_; refine .cons rfl ?_; refine .cons rfl ?_; refine .cons rfl ?_; refine .cons rfl ?_; exact .nil _) (by (apply Take.cons; focus exact .head); (apply Take.cons; focus exact .head); (apply Take.cons; focus exact .tail (.tail .head)); (apply Take.cons; focus exact .tail .head); exact .nil) (sx_loopI (γ := Nat × Sl) (fun x => x.1 ≤ ks.length) (fun x => ks.length - x.1) (fun x => [(0, .s (evPtr bv)), (11, .s (.o (.slice p n c))), (12, .s (.o (.int .i64 ks.length))), (13, .s (.o (.int .i64 x.1))), (3, .s (.o (.slice x.2.p x.2.n x.2.c)))]) (fun x => [.vec ⟨x.2.p, x.2.n, x.2.c⟩ 101 4 encM ((ks.take x.1).map fun k => (mget m k).getD Member.z), .vec ⟨p, n, c⟩ 3 1 encI ks, .blk bv 143 (viewCh self most bm), .map bm ekInt evM m]) ((0, ⟨none, 0, 0⟩)) (by simp) ?_)
  rintro ⟨i, p1, n1, c1⟩ h1 ih
  simp only at h1
  refine sx_seq ?_
  refine sx_region ?_
  refine sxo_pure rfl rfl rfl trivial ?_
  refine sxo_end ?_
  refine sx_seq ?_
  refine sx_cond rfl (fun h => ?_) (fun h => ?_)
  · simp at h
    refine sx_skip ?_
    refine sx_seq ?_
    refine sx_block ?_
    refine sx_seq ?_
    refine sx_region ?_
    refine sxo_indexAddr rfl rfl rfl rfl rfl rfl rfl (Reads.own (by exact .tail .head)) (by omega) rfl (fun _ _ => ?_)
    refine sxo_loadEl0 rfl rfl rfl (by exact .head) (Reads.own (by exact .tail (.tail .head))) rfl (by omega) (fun _ => rfl) rfl rfl (fun k hk1 => ?_)
    refine sxo_pure rfl rfl rfl trivial ?_
    refine sxo_end ?_
    refine sx_region ?_
    refine sxo_pure rfl rfl rfl trivial ?_
    refine sxo_pure rfl rfl rfl trivial ?_
    refine sxo_pure rfl rfl rfl trivial ?_
    refine sxo_pure rfl rfl rfl trivial ?_
    refine sxo_load rfl rfl rfl (by exact .tail (.tail (.tail .head))) rfl rfl rfl rfl ?_
    refine sxo_pure rfl rfl rfl trivial ?_
    refine sxo_lookup ekInt _ HasZ.z rfl rfl rfl rfl (by exact .tail (.tail (.tail (.tail .head)))) rfl rfl (kt_int rfl rfl) rfl rfl rfl rfl rfl ?_
    refine sxo_buildSlice rfl rfl rfl rfl rfl rfl rfl rfl rfl rfl rfl rfl rfl (fun _ => ?_)
    refine sxo_append (lx := [(mget m k).getD Member.z]) rfl rfl rfl rfl rfl rfl rfl rfl rfl rfl (by exact .tail (.tail .head)) (Reads.one (by exact .head) rfl rfl) (fun _ => rfl) rfl rfl rfl (by simp; omega) (fun p2 n2 c2 => ?_)
    refine sxo_pure rfl rfl rfl trivial ?_
    refine sxo_end ?_
    refine sx_inBlock ?_
    refine sx_region ?_
    refine sxo_pure rfl rfl rfl (by omega) ?_
    refine sxo_pure rfl rfl rfl trivial ?_
    refine sxo_end ?_
    have e := ih (i + 1, ⟨p2, n2, c2⟩) (by simp only; omega) (by simp only; omega)
    simp only [take_map_succ (i := i) hk1] at e
    exact sx_less (by refine .cons rfl ?_; refine .cons rfl ?_; refine .cons rfl ?_; refine .cons rfl ?_; refine .cons rfl ?_; exact .nil _) (by (apply Take.cons; focus exact .head); (apply Take.cons; focus exact .tail (.tail .head)); (apply Take.cons; focus exact .tail (.tail .head)); (apply Take.cons; focus exact .tail (.tail .head)); exact .nil) e
  · simp at h
    refine sx_exit rfl ?_
    refine sx_seq ?_
    refine sx_region ?_
    refine sxo_pure rfl rfl rfl trivial ?_
    refine sxo_pure rfl rfl rfl trivial ?_
    refine sxo_end ?_
    have hi : i = ks.length := by omega
    subst hi
    simp only [List.take_length]
    refine sx_retL hret hro hk (.tmp rfl .nil) ⟨_, _, _, ks, hks, rfl, rfl⟩ (by (apply Take.cons; focus exact .head); (apply Take.cons; focus exact .tail .head); (apply Take.cons; focus exact .tail .head); exact .nil)
theorem Probe1_ok (K : Hp) (a : Member) : TR Tryz.prog K 80 [evM a] [] fun v r => v = .s (.o (.bool (decide (a.state ≠ 3)))) ∧ r = [] := by
  refine tr_intro Tryz.func80 rfl rfl rfl fun cx hro hk hret => ?_
  refine sx_seq ?_
  refine sx_region ?_
  refine sxo_box rfl rfl rfl rfl rfl rfl (fun _ => ?_)
  refine sxo_pure rfl rfl rfl trivial ?_
  refine sxo_end ?_
  refine sx_seq ?_
  refine sx_region ?_
  refine sxo_pure rfl rfl rfl trivial ?_
  refine sxo_load rfl rfl rfl (by exact .head) rfl rfl rfl rfl ?_
  refine sxo_pure rfl rfl rfl trivial ?_
  refine sxo_pure rfl rfl rfl trivial ?_
  refine sxo_end ?_
  refine sx_retL hret hro hk (.tmp rfl .nil) ⟨by simp [resV], rfl⟩ (by exact .nil)
theorem ids_ok (K : Hp) (bv bm : Nat) (self : Member) (most : Int) (m : List (Int × Member)) (hm : m.length ≤ 1000000) : TR Tryz.prog K 79 [evPtr bv, .o (.func (.func 80) #[] #[])] [.blk bv 143 (viewCh self most bm), .map bm ekInt evM m]
    fun v r => ∃ p n c, ∃ l : List Int, l.length ≤ m.length ∧ v = .s (.o (.slice p n c)) ∧ r = [.vec ⟨p, n, c⟩ 3 1 encI l, .blk bv 143 (viewCh self most bm), .map bm ekInt evM m] := by
  refine tr_intro Tryz.func79 rfl rfl rfl fun cx hro hk hret => ?_
  refine sx_seq ?_
  refine sx_region ?_
  refine sxo_pure rfl rfl rfl trivial ?_
  refine sxo_end ?_
  refine sx_seq ?_
  refine sx_region ?_
  refine sxo_pure rfl rfl rfl trivial ?_
  refine sxo_end ?_
  refine sx_seq ?_
  refine sx_seq ?_
  refine sx_region ?_
  refine sxo_pure rfl rfl rfl trivial ?_
  refine sxo_pure rfl rfl rfl trivial ?_
  refine sxo_pure rfl rfl rfl trivial ?_
  refine sxo_load rfl rfl rfl (by exact .head) rfl rfl rfl rfl ?_
  refine sxo_range rfl rfl rfl (by exact .tail .head) rfl rfl rfl rfl (fun rb => ?_)
  refine sxo_end ?_
  refine sx_block ?_
  refine sx_nilVec encI 3 1 ?_
  refine sx_less (by refine .cons rfl ?_; refine .cons rfl ?_; refine .cons rfl ?_; refine .cons rfl ?_; exact .nil _) (by (apply Take.cons; focus exact .tail .head); (apply Take.cons; focus exact .head); (apply Take.cons; focus exact .head); exact .nil) (sx_loopI (γ := List Nat × List Int × Sl) (fun x => Seen m.length x.1 ∧ x.2.1.length ≤ x.1.length) (fun x => m.length - x.1.length) (fun x => [(0, .s (evPtr bv)), (1, .s (.o (.func (.func 80) #[] #[]))), (12, .s (evPtr rb)), (5, .s (.o (.slice x.2.2.p x.2.2.n x.2.2.c)))]) (fun x => [itE rb bm ekInt evM m x.1, .vec ⟨x.2.2.p, x.2.2.n, x.2.2.c⟩ 3 1 encI x.2.1, .blk bv 143 (viewCh self most bm)]) (([], [], ⟨none, 0, 0⟩)) (⟨.nil _, by simp⟩) ?_)
  rintro ⟨seen, l, p1, n1, c1⟩ ⟨hs, hl⟩ ih
  simp only at hs hl
  refine sx_seq ?_
  refine sx_region ?_
  refine sxo_next rfl rfl rfl .head rfl rfl (fun hall => ?_) (fun j y hjy hjn => ?_)
  · refine sxo_pure rfl rfl rfl trivial ?_
    refine sxo_end ?_
    refine sx_seq ?_
    refine sx_condF rfl ?_
    refine sx_exit rfl ?_
    refine sx_seq ?_
    refine sx_region ?_
    refine sxo_pure rfl rfl rfl trivial ?_
    refine sxo_recast (.map bm ekInt evM m) .head itE_map ?_
    have hlen := nodup_lt hs.1 hs.2
    skip
    refine sxo_call0 rfl rfl rfl rfl (by (apply Take.cons; focus exact .tail .head); exact .nil) (fun Kc hK hB => SortInt_ok Kc p1 n1 c1 l (by omega)) rfl rfl ?_ (hH := by rintro v m rfl; (exact hh_nil))
    rintro v m rfl
    simp only [List.cons_append, List.nil_append, List.append_nil, resV]
    refine sxo_end ?_
    refine sx_seq ?_
    refine sx_region ?_
    refine sxo_pure rfl rfl rfl trivial ?_
    refine sxo_pure rfl rfl rfl trivial ?_
    refine sxo_end ?_
    refine sx_retL hret hro hk (.tmp rfl .nil) ⟨_, _, _, l.mergeSort le_, by rw [List.length_mergeSort]; omega, rfl, rfl⟩ (by (apply Take.cons; focus exact .head); (apply Take.cons; focus exact .tail .head); (apply Take.cons; focus exact .head); exact .nil)
  · obtain ⟨hs2, hlt⟩ := hs.next (List.getElem?_eq_some_iff.1 hjy).1 hjn
    refine sxo_pure rfl rfl rfl trivial ?_
    refine sxo_end ?_
    refine sx_seq ?_
    refine sx_condT rfl ?_
    refine sx_skip ?_
    refine sx_block ?_
    refine sx_seq ?_
    refine sx_region ?_
    refine sxo_entry rfl rfl rfl .head hjy rfl rfl ?_
    refine sxo_pure rfl rfl rfl trivial ?_
    refine sxo_alloc rfl rfl rfl rfl rfl rfl (fun _ => ?_)
    refine sxo_store rfl rfl rfl rfl (by exact .head) rfl rfl rfl rfl rfl ?_
    refine sxo_end ?_
    refine sx_seq ?_
    refine sx_region ?_
    refine sxo_pure rfl rfl rfl trivial ?_
    refine sxo_load rfl rfl rfl (by exact .head) rfl rfl rfl rfl ?_
    refine sxo_call0 rfl rfl rfl rfl (by exact .nil) (fun Kc hK hB => Probe1_ok Kc _) rfl rfl ?_ (hH := by rintro v m ⟨rfl, rfl⟩; (exact hh_nil))
    rintro v m ⟨rfl, rfl⟩
    simp only [List.cons_append, List.nil_append, List.append_nil, resV]
    refine sxo_end ?_
    refine sx_cond rfl (fun h => ?_) (fun h => ?_)
    · refine sx_region ?_
      refine sxo_pure rfl rfl rfl trivial ?_
      refine sxo_pure rfl rfl rfl trivial ?_
      refine sxo_load rfl rfl rfl (by exact .head) rfl rfl rfl rfl ?_
      refine sxo_buildSlice rfl rfl rfl rfl rfl rfl rfl rfl rfl rfl rfl rfl rfl (fun _ => ?_)
      refine sxo_append (lx := [y.2.id]) rfl rfl rfl rfl rfl rfl rfl rfl rfl rfl (by exact .tail (.tail (.tail .head))) (Reads.one (by exact .head) rfl rfl) (fun _ => rfl) rfl rfl rfl (by simp; omega) (fun p2 n2 c2 => ?_)
      refine sxo_pure rfl rfl rfl trivial ?_
      refine sxo_end ?_
      refine sx_inBlock ?_
      refine sx_less (by refine .cons rfl ?_; refine .cons rfl ?_; refine .cons rfl ?_; refine .cons rfl ?_; exact .nil _) (by (apply Take.cons; focus exact .tail (.tail (.tail .head))); (apply Take.cons; focus exact .head); (apply Take.cons; focus exact .tail (.tail .head)); exact .nil) (ih ((seen ++ [j], l ++ [y.2.id], ⟨p2, n2, c2⟩)) (⟨hs2, by simp; omega⟩) (by simp; omega))
    · refine sx_skip ?_
      refine sx_inBlock ?_
      refine sx_less (by refine .cons rfl ?_; refine .cons rfl ?_; refine .cons rfl ?_; refine .cons rfl ?_; exact .nil _) (by (apply Take.cons; focus exact .tail .head); (apply Take.cons; focus exact .tail .head); (apply Take.cons; focus exact .tail .head); exact .nil) (ih ((seen ++ [j], l, ⟨p1, n1, c1⟩)) (⟨hs2, by simp; omega⟩) (by simp; omega))
end Go.SX

namespace Go.SX
open Go.Proofs
attribute [local irreducible] SX SXo
theorem Beside.rd {r r' : List Ent} {Kc : Hp} {α : Type} {s : Sl} {T0 : TypeId} {wd : Nat} {enc : α → List Ch} {l : List α} (hB : Beside r Kc) (hp : Pick r (.vec s T0 wd enc l) r') : VecRd s T0 wd enc l Kc := by
  obtain ⟨h, hs, ho⟩ := hB
  obtain ⟨h1, h2, _, s1, _, he, _⟩ := OSat.pick hp ho
  exact (VecAt.rd he).mono (s1.trans hs)
theorem Probe_ok (K : Hp) (bv bm : Nat) (self : Member) (most : Int) (m : List (Int × Member)) (hm : m.length ≤ 1000000) (seed : Int) : TR Tryz.prog K 34 [evPtr bv, .o (.int .u64 seed)] [.blk bv 143 (viewCh self most bm), .map bm ekInt evM m]
    fun v r => ∃ id b, v = .t [.o (.int .i64 id), .o (.bool b)] ∧ r = [.blk bv 143 (viewCh self most bm), .map bm ekInt evM m] ∧ (b = true → 0 < m.length) := by
  refine tr_intro Tryz.func34 rfl rfl rfl fun cx hro hk hret => ?_
  refine sx_seq ?_
  refine sx_region ?_
  refine sxo_pure rfl rfl rfl trivial ?_
  refine sxo_pure rfl rfl rfl trivial ?_
  refine sxo_end ?_
  refine sx_seq ?_
  refine sx_region ?_
  refine sxo_pure rfl rfl rfl trivial ?_
  refine sxo_call0 rfl rfl rfl rfl (by (apply Take.cons; focus exact .head); (apply Take.cons; focus exact .head); exact .nil) (fun Kc hK hB => ids_ok Kc bv bm self most m hm) rfl rfl ?_ (hH := by rintro v m ⟨p, n, c, l, hl, rfl, rfl⟩; (exact hh_nil))
  rintro v m ⟨p, n, c, l, hl, rfl, rfl⟩
  simp only [List.cons_append, List.nil_append, List.append_nil, resV]
  refine sxo_pure rfl rfl rfl trivial ?_
  refine sxo_end ?_
  refine sx_seq ?_
  refine sx_seq ?_
  refine sx_region ?_
  refine sxo_pure rfl rfl rfl trivial ?_
  refine sxo_len rfl rfl rfl rfl rfl (by exact Reads.own (by exact .head)) rfl rfl ?_
  refine sxo_pure rfl rfl rfl trivial ?_
  refine sxo_end ?_
  refine sx_cond rfl (fun h => ?_) (fun h => ?_)
  · refine sx_seq ?_
    refine sx_region ?_
    refine sxo_pure rfl rfl rfl trivial ?_
    refine sxo_pure rfl rfl rfl trivial ?_
    refine sxo_end ?_
    refine sx_retL hret hro hk (.tmp rfl (.tmp rfl .nil)) ⟨_, _, rfl, rfl, by simp⟩ (by (apply Take.cons; focus exact .tail .head); (apply Take.cons; focus exact .tail .head); exact .nil)
  · simp at h
    have hl0 : 0 < l.length := by cases l with
      | nil => simp at h
      | cons => simp
    refine sx_skip ?_
    refine sx_seq ?_
    refine sx_region ?_
    refine sxo_pure rfl rfl rfl trivial ?_
    refine sxo_pure rfl rfl rfl trivial ?_
    refine sxo_call0 rfl rfl rfl rfl (by exact .nil) (fun Kc hK hB => drawNew_ok Kc _) rfl rfl ?_ (hH := by rintro v m ⟨b, rfl, rfl⟩; (exact hh_nil))
    rintro v m ⟨b, rfl, rfl⟩
    simp only [List.cons_append, List.nil_append, List.append_nil, resV]
    refine sxo_pure rfl rfl rfl trivial ?_
    refine sxo_len rfl rfl rfl rfl rfl (by exact Reads.own (by exact .tail .head)) rfl rfl ?_
    refine sxo_conv rfl rfl rfl rfl rfl rfl rfl rfl ?_
    rw [wrap_u64 (n := l.length) (by omega)]
    refine sxo_call0 rfl rfl rfl rfl (by (apply Take.cons; focus exact .head); exact .nil) (fun Kc hK hB => drawBelow_ok Kc b _ l.length (by omega)) rfl rfl ?_ (hH := by rintro v m ⟨rfl, rfl⟩; (exact hh_nil))
    rintro v m ⟨rfl, rfl⟩
    simp only [List.cons_append, List.nil_append, List.append_nil, resV]
    have hb := drawBelow_in seed (n := l.length) (by omega)
    skip
    refine sxo_indexAddr rfl rfl rfl rfl rfl rfl rfl (Reads.own (by exact .tail .head)) (by omega) rfl (fun _ _ => ?_)
    refine sxo_loadEl0 rfl rfl rfl (by exact .head) (Reads.own (by exact .tail (.tail .head))) rfl (by omega) (fun _ => rfl) rfl rfl (fun id hid => ?_)
    refine sxo_pure rfl rfl rfl trivial ?_
    refine sxo_pure rfl rfl rfl trivial ?_
    refine sxo_end ?_
    refine sx_retL hret hro hk (.tmp rfl (.tmp rfl .nil)) ⟨_, _, rfl, rfl, fun _ => by omega⟩ (by (apply Take.cons; focus exact .tail (.tail (.tail .head))); (apply Take.cons; focus exact .tail (.tail (.tail .head))); exact .nil)
theorem Gossip_ok (K : Hp) (bv bm : Nat) (self : Member) (most : Int) (m : List (Int × Member)) (hm : m.length ≤ 1000000) (kk seed : Int) : TR Tryz.prog K 35 [evPtr bv, .o (.int .i64 kk), .o (.int .u64 seed)] [.blk bv 143 (viewCh self most bm), .map bm ekInt evM m]
    fun v r => ∃ p n c, ∃ l : List Member, l.length ≤ m.length + 1 ∧ v = .s (.o (.slice p n c)) ∧ r = [.vec ⟨p, n, c⟩ 101 4 encM l, .blk bv 143 (viewCh self most bm), .map bm ekInt evM m] := by
  refine tr_intro Tryz.func35 rfl rfl rfl fun cx hro hk hret => ?_
  refine sx_seq ?_
  refine sx_region ?_
  refine sxo_pure rfl rfl rfl trivial ?_
  refine sxo_end ?_
  refine sx_seq ?_
  refine sx_region ?_
  refine sxo_pure rfl rfl rfl trivial ?_
  refine sxo_end ?_
  refine sx_seq ?_
  refine sx_seq ?_
  refine sx_draw (by kernel_rfl) [0, 2, 3, 4, 5, 8, 11, 1, 6, 7, 9, 10] [(5, 1)] (by kernel_rfl) ?_
  refine sxo_pure rfl rfl rfl trivial ?_
  refine sxo_pure rfl rfl rfl trivial ?_
  refine sxo_pure rfl rfl rfl trivial ?_
  refine sxo_pure rfl rfl rfl trivial ?_
  refine sxo_loadF rfl rfl rfl (by exact .head) rfl rfl rfl ?_
  refine sxo_pure rfl rfl rfl trivial ?_
  refine sxo_pure rfl rfl rfl trivial ?_
  refine sxo_call0 rfl rfl rfl rfl (by exact .nil) (fun Kc hK hB => drawNew_ok Kc _) rfl rfl ?_ (hH := by rintro v m ⟨b, rfl, rfl⟩; (refine hh_chk ⟨_, _, _, (by exact .tail .head), (by rfl)⟩ ?_; exact hh_nil))
  rintro v m ⟨b, rfl, rfl⟩
  simp only [List.cons_append, List.nil_append, List.append_nil, resV]
  skip
  refine sxo_call0 rfl rfl rfl rfl (by exact .nil) (fun Kc hK hB => KeysMember_ok Kc bm) rfl rfl ?_ (hH := by rintro v m ⟨bx, rfl, rfl⟩; (refine hh_free rfl ?_; exact hh_nil))
  rintro v m ⟨bx, rfl, rfl⟩
  simp only [List.cons_append, List.nil_append, List.append_nil, resV]
  skip
  refine sxo_call0 rfl rfl rfl rfl (by (apply Take.cons; focus exact .head); (apply Take.cons; focus exact .tail (.tail .head)); exact .nil) (fun Kc hK hB => SortedInt_ok Kc _ [.o (.pointer (some ⟨bx, 0, none⟩))] _ _ _ (by omega) (fun l hl => by rw [hl.length_eq]; simp; omega) (KeysMember_seq Kc bx bm m)) rfl rfl ?_ (hH := by rintro v m ⟨p, n, c, l, hl, rfl, rfl⟩; (refine hh_free rfl ?_; exact hh_nil))
  rintro v m ⟨p, n, c, l, hl, rfl, rfl⟩
  simp only [List.cons_append, List.nil_append, List.append_nil, resV]
  skip
  have hks : (l.mergeSort le_).length = m.length := by rw [List.length_mergeSort]; simpa using hl.length_eq
  generalize l.mergeSort le_ = ks at hks
  refine sxo_call0 rfl rfl rfl rfl (by (apply Take.cons; focus exact .tail (.tail (.tail .head))); exact .nil) (fun Kc hK hB => Sample_ok Kc b seed p n c ks kk (fun Kd hd => Reads.beside ((hB.rd (by exact .head)).mono hd)) (by omega)) rfl rfl ?_ (hH := by rintro v m ⟨p3, n3, c3, s3, l3, hp3, rfl, rfl⟩; (refine hh_free rfl ?_; exact hh_nil))
  rintro v m ⟨p3, n3, c3, s3, l3, hp3, rfl, rfl⟩
  simp only [List.cons_append, List.nil_append, List.append_nil, resV]
  have hl3 := hp3.length_eq
  generalize hq : l3.take (max 0 (min kk ks.length)).toNat = q
  have hql : q.length ≤ m.length := by rw [← hq, List.length_take]; omega
  refine sxo_len rfl rfl rfl rfl rfl (by exact Reads.own (by exact .head)) rfl rfl ?_
  refine sxo_end ?_
  refine sx_block ?_
  refine sx_nilVec encM 101 4 ?_
  refine sx_less (by refine .cons rfl ?_; refine .cons rfl ?_; refine .cons rfl ?_; refine .cons rfl ?_; refine .cons rfl ?_; exact .nil _) (by (apply Take.cons; focus exact .head); (apply Take.cons; focus exact .head); (apply Take.cons; focus exact .tail (.tail (.tail (.tail .head)))); (apply Take.cons; focus exact .tail (.tail (.tail .head))); exact .nil) (sx_loopI (γ := Nat × Sl × List Member) (fun x => x.1 ≤ q.length ∧ x.2.2.length = x.1) (fun x => q.length - x.1) (fun x => [(0, .s (evPtr bv)), (19, .s (.o (.slice p3 n3 c3))), (20, .s (.o (.int .i64 q.length))), (21, .s (.o (.int .i64 x.1))), (7, .s (.o (.slice x.2.1.p x.2.1.n x.2.1.c)))]) (fun x => [.vec ⟨x.2.1.p, x.2.1.n, x.2.1.c⟩ 101 4 encM x.2.2, .vec ⟨p3, n3, c3⟩ 3 1 encI q, .blk bv 143 (viewCh self most bm), .map bm ekInt evM m]) ((0, ⟨none, 0, 0⟩, [])) (by simp) ?_)
  rintro ⟨i, ⟨p1, n1, c1⟩, o⟩ ⟨h1, h2⟩ ih
  simp only at h1 h2
  refine sx_seq ?_
  refine sx_region ?_
  refine sxo_pure rfl rfl rfl trivial ?_
  refine sxo_end ?_
  refine sx_seq ?_
  refine sx_cond rfl (fun h => ?_) (fun h => ?_)
  · simp at h
    refine sx_skip ?_
    refine sx_seq ?_
    refine sx_block ?_
    refine sx_seq ?_
    refine sx_region ?_
    refine sxo_indexAddr rfl rfl rfl rfl rfl rfl rfl (Reads.own (by exact .tail .head)) (by omega) rfl (fun _ _ => ?_)
    refine sxo_loadEl0 rfl rfl rfl (by exact .head) (Reads.own (by exact .tail (.tail .head))) rfl (by omega) (fun _ => rfl) rfl rfl (fun k hk1 => ?_)
    refine sxo_pure rfl rfl rfl trivial ?_
    refine sxo_end ?_
    refine sx_region ?_
    refine sxo_pure rfl rfl rfl trivial ?_
    refine sxo_pure rfl rfl rfl trivial ?_
    refine sxo_pure rfl rfl rfl trivial ?_
    refine sxo_pure rfl rfl rfl trivial ?_
    refine sxo_load rfl rfl rfl (by exact .tail (.tail (.tail .head))) rfl rfl rfl rfl ?_
    refine sxo_pure rfl rfl rfl trivial ?_
    refine sxo_lookup ekInt _ HasZ.z rfl rfl rfl rfl (by exact .tail (.tail (.tail (.tail .head)))) rfl rfl (kt_int rfl rfl) rfl rfl rfl rfl rfl ?_
    refine sxo_buildSlice rfl rfl rfl rfl rfl rfl rfl rfl rfl rfl rfl rfl rfl (fun _ => ?_)
    refine sxo_append (lx := [(mget m k).getD Member.z]) rfl rfl rfl rfl rfl rfl rfl rfl rfl rfl (by exact .tail (.tail .head)) (Reads.one (by exact .head) rfl rfl) (fun _ => rfl) rfl rfl rfl (by simp; omega) (fun p2 n2 c2 => ?_)
    refine sxo_pure rfl rfl rfl trivial ?_
    refine sxo_end ?_
    refine sx_inBlock ?_
    refine sx_region ?_
    refine sxo_pure rfl rfl rfl (by omega) ?_
    refine sxo_pure rfl rfl rfl trivial ?_
    refine sxo_end ?_
    refine sx_less (by refine .cons rfl ?_; refine .cons rfl ?_; refine .cons rfl ?_; refine .cons rfl ?_; refine .cons rfl ?_; exact .nil _) (by (apply Take.cons; focus exact .head); (apply Take.cons; focus exact .tail (.tail .head)); (apply Take.cons; focus exact .tail (.tail .head)); (apply Take.cons; focus exact .tail (.tail .head)); exact .nil) (ih ((i + 1, ⟨p2, n2, c2⟩, o ++ [(mget m k).getD Member.z])) (by simp only [List.length_append, List.length_singleton]; omega) (by simp only; omega))
  · simp at h
    refine sx_exit rfl ?_
    refine sx_seq ?_
    refine sx_region ?_
    refine sxo_pure rfl rfl rfl trivial ?_
    refine sxo_pure rfl rfl rfl trivial ?_
    refine sxo_pure rfl rfl rfl trivial ?_
    refine sxo_pure rfl rfl rfl trivial ?_
    refine sxo_load rfl rfl rfl (by exact .tail (.tail .head)) rfl rfl rfl rfl ?_
    refine sxo_buildSlice rfl rfl rfl rfl rfl rfl rfl rfl rfl rfl rfl rfl rfl (fun _ => ?_)
    refine sxo_append (lx := [self]) rfl rfl rfl rfl rfl rfl rfl rfl rfl rfl (by exact .tail .head) (Reads.one (by exact .head) rfl rfl) (fun _ => rfl) rfl rfl rfl (by simp; omega) (fun p2 n2 c2 => ?_)
    refine sxo_pure rfl rfl rfl trivial ?_
    refine sxo_end ?_
    refine sx_retL hret hro hk (.tmp rfl .nil) ⟨_, _, _, o ++ [self], by simp; omega, rfl, rfl⟩ (by (apply Take.cons; focus exact .head); (apply Take.cons; focus exact .tail (.tail .head)); (apply Take.cons; focus exact .tail (.tail .head)); exact .nil)
end Go.SX

namespace Go.SX
section
variable {P : Program} [Tab P] {N : Nat} {cx : Cx P N} {K : Hp} {ds : List Deferred} {k : List Item} {env : Env} {mem r : List Ent} {rg : Rg} {H : List HE} {R : List (Nat × Oper)} {i : Nat} {o : Oper}
variable {T eT : TypeId} {ti te : TInf}
/-- A drawn region, told by its number. -/
theorem sx_drawN (id : Nat) {l : List Oper} (hmx : P.follows .mixedOrders = true) (p : List Nat) (flo : List (Nat × Nat)) (hp : planOk P l p flo = true) (h : SXo cx K ds ⟨l, true, flo⟩ [] (planR l p) k env mem) :
    SX cx K ds (.code (.region id l.toArray true) :: k) env mem := sx_draw hmx p flo hp h
def wrapOp (op : BinOp) (k : IntKind) (a b : Int) : Option Int := match op with
  | .add => some (k.wrap (a + b))
  | .sub => some (k.wrap (a - b))
  | .mul => some (k.wrap (a * b))
  | _ => none
/-- A sum, a difference, a product that may wrap. -/
theorem sxo_wrap {op : BinOp} {x y : Operand} {u : TypeId} {kk : IntKind} {a b n : Int} (ho : o.op = .binOp op T x y u) (hg : guardE rg.ops o env = some true) (hx : ev env x = some (.s (.o (.int kk a)))) (hy : ev env y = some (.s (.o (.int kk b))))
    (hw : wrapOp op kk a b = some n) (hdst : dstOk N o.dst = true)
    (h : SXo cx K ds rg H R k (setE env o.dst (.s (.o (.int kk n)))) mem) (hH : ∀ x ∈ H, rg.fr P x.idx i = true → x.chk mem := by repeat (first | exact hh_nil | refine hh_free rfl ?_ | refine hh_chk ⟨_, _, _, (by first | exact .head | exact .tail .head | exact .tail (.tail .head) | exact .tail (.tail (.tail .head)) | exact .tail (.tail (.tail (.tail .head)))), (by rfl)⟩ ?_ | refine hh_chk trivial ?_)) : SXo cx K ds rg H ((i, o) :: R) k env mem :=
  sxo_any (v := .s (.o (.int kk n))) hg (by rw [ho]; rfl) hdst (fun ac he w => by
    cases op <;> simp only [wrapOp, Option.some.injEq, reduceCtorEq] at hw <;> subst hw <;> simp [execOp, ho, he.eval hx, he.eval hy, eqGuard, binOp, Op.intArith]) hH h
/-- A remainder, whatever the signs. -/
theorem sxo_remG {x y : Operand} {u : TypeId} {kk : IntKind} {a b : Int} (ho : o.op = .binOp .rem T x y u) (hg : guardE rg.ops o env = some true) (hx : ev env x = some (.s (.o (.int kk a)))) (hy : ev env y = some (.s (.o (.int kk b))))
    (hb : b ≠ 0) (hdst : dstOk N o.dst = true)
    (h : SXo cx K ds rg H R k (setE env o.dst (.s (.o (.int kk (a.tmod b))))) mem) (hH : ∀ x ∈ H, rg.fr P x.idx i = true → x.chk mem := by repeat (first | exact hh_nil | refine hh_free rfl ?_ | refine hh_chk ⟨_, _, _, (by first | exact .head | exact .tail .head | exact .tail (.tail .head) | exact .tail (.tail (.tail .head)) | exact .tail (.tail (.tail (.tail .head)))), (by rfl)⟩ ?_ | refine hh_chk trivial ?_)) : SXo cx K ds rg H ((i, o) :: R) k env mem :=
  sxo_any (v := .s (.o (.int kk (a.tmod b)))) hg (by rw [ho]; rfl) hdst (fun ac he w => by
    simp [execOp, ho, he.eval hx, he.eval hy, eqGuard, binOp, Op.intDiv, hb]) hH h
end
/-! ### Entries folded into one -/
/-- Some of a family of lists of entries. -/
def obj {γ : Type} (I : γ → Prop) (f : γ → List Ent) : Ent := .abs 0 fun _ h => ∃ x, I x ∧ OSat (f x) h
theorem take_app {M r : List Ent} : Take (M ++ r) M r := by
  induction M with
  | nil => exact .nil
  | cons x M ih => exact .cons .head ih
section
variable {P : Program} {N : Nat} {cx : Cx P N} {K : Hp} {ds : List Deferred} {k : List Item} {env : Env} {mem r : List Ent} {γ : Type} {I : γ → Prop} {f : γ → List Ent}
theorem MSat.open {H : Hp} (s : MSat K (obj I f :: r) H) : ∃ x, I x ∧ MSat K (f x ++ r) H := by
  obtain ⟨h, d, s1, s2, h1, h2, d', t1, t2, ⟨x, hx, ho⟩, hr⟩ := s
  exact ⟨x, hx, h, d, s1, s2, OSat.append d' t1 t2 ho hr⟩
theorem MSat.fold {H : Hp} {x : γ} (hx : I x) (s : MSat K (f x ++ r) H) : MSat K (obj I f :: r) H := by
  obtain ⟨h, d, s1, s2, o⟩ := s
  obtain ⟨h1, h2, d', t1, t2, o1, o2⟩ := OSat.take take_app o
  exact ⟨h, d, s1, s2, h1, h2, d', t1, t2, ⟨x, hx, o1⟩, o2⟩
theorem MSat.takes {H : Hp} {M : List Ent} (t : Take mem M r) (s : MSat K mem H) : MSat K (M ++ r) H := by
  obtain ⟨h, d, s1, s2, o⟩ := s
  obtain ⟨h1, h2, d', t1, t2, o1, o2⟩ := OSat.take t o
  exact ⟨h, d, s1, s2, OSat.append d' t1 t2 o1 o2⟩
/-- Open a folded entry. -/
theorem sx_open (p : Pick mem (obj I f) r) (h : ∀ x, I x → SX cx K ds k env (f x ++ r)) : SX cx K ds k env mem := fun a w s => by
  obtain ⟨x, hx, hm⟩ := (MSat.pick p s.mem).open
  exact h x hx a w ⟨s.ds, s.size, s.env, hm, s.os, s.out⟩
/-- Fold entries. -/
theorem sx_fold (x : γ) (hx : I x) (t : Take mem (f x) r) (h : SX cx K ds k env (obj I f :: r)) : SX cx K ds k env mem := fun a w s =>
  h a w ⟨s.ds, s.size, s.env, (MSat.takes t s.mem).fold hx, s.os, s.out⟩
variable [Tab P] {rg : Rg} {H : List HE} {R : List (Nat × Oper)}
theorem sxo_open (p : Pick mem (obj I f) r) (h : ∀ x, I x → SXo cx K ds rg H R k env (f x ++ r)) : SXo cx K ds rg H R k env mem := fun hR a w Hs s hH => by
  obtain ⟨x, hx, hm⟩ := (MSat.pick p s.mem).open
  exact h x hx hR a w Hs ⟨s.ds, s.size, s.env, hm, s.os, s.out⟩ hH
theorem sxo_fold (x : γ) (hx : I x) (t : Take mem (f x) r) (h : SXo cx K ds rg H R k env (obj I f :: r)) : SXo cx K ds rg H R k env mem := fun hR a w Hs s hH =>
  h hR a w Hs ⟨s.ds, s.size, s.env, (MSat.takes t s.mem).fold hx, s.os, s.out⟩ hH
end
end Go.SX

namespace Go.SX
open Go.Proofs
attribute [local irreducible] SX SXo
theorem withinM_t (K : Hp) (mem : List Ent) (n a b : Int) (h : a ≤ n ∧ n ≤ b) : TR Tryz.prog K 64 [.o (.int .i64 n), .o (.int .i64 a), .o (.int .i64 b)] mem fun v m => v = .s (.o (.bool true)) ∧ m = mem :=
  (withinM_ok K mem n a b).mono fun v m ⟨h1, h2⟩ => ⟨by rw [h1, decide_eq_true h], h2⟩
theorem withinM_f (K : Hp) (mem : List Ent) (n a b : Int) (h : ¬ (a ≤ n ∧ n ≤ b)) : TR Tryz.prog K 64 [.o (.int .i64 n), .o (.int .i64 a), .o (.int .i64 b)] mem fun v m => v = .s (.o (.bool false)) ∧ m = mem :=
  (withinM_ok K mem n a b).mono fun v m ⟨h1, h2⟩ => ⟨by rw [h1, decide_eq_false h], h2⟩
theorem withinS_t (K : Hp) (mem : List Ent) (n a b : Int) (h : a ≤ n ∧ n ≤ b) : TR Tryz.prog K 65 [.o (.int .i64 n), .o (.int .i64 a), .o (.int .i64 b)] mem fun v m => v = .s (.o (.bool true)) ∧ m = mem :=
  (withinS_ok K mem n a b).mono fun v m ⟨h1, h2⟩ => ⟨by rw [h1, decide_eq_true h], h2⟩
theorem withinS_f (K : Hp) (mem : List Ent) (n a b : Int) (h : ¬ (a ≤ n ∧ n ≤ b)) : TR Tryz.prog K 65 [.o (.int .i64 n), .o (.int .i64 a), .o (.int .i64 b)] mem fun v m => v = .s (.o (.bool false)) ∧ m = mem :=
  (withinS_ok K mem n a b).mono fun v m ⟨h1, h2⟩ => ⟨by rw [h1, decide_eq_false h], h2⟩
theorem withinN_t (K : Hp) (mem : List Ent) (n a b : Int) (h : a ≤ n ∧ n ≤ b) : TR Tryz.prog K 16 [.o (.int .i64 n), .o (.int .i64 a), .o (.int .i64 b)] mem fun v m => v = .s (.o (.bool true)) ∧ m = mem :=
  (withinN_ok K mem n a b).mono fun v m ⟨h1, h2⟩ => ⟨by rw [h1, decide_eq_true h], h2⟩
theorem withinN_f (K : Hp) (mem : List Ent) (n a b : Int) (h : ¬ (a ≤ n ∧ n ≤ b)) : TR Tryz.prog K 16 [.o (.int .i64 n), .o (.int .i64 a), .o (.int .i64 b)] mem fun v m => v = .s (.o (.bool false)) ∧ m = mem :=
  (withinN_ok K mem n a b).mono fun v m ⟨h1, h2⟩ => ⟨by rw [h1, decide_eq_false h], h2⟩
theorem withinW_t (K : Hp) (mem : List Ent) (n a b : Int) (h : a ≤ n ∧ n ≤ b) : TR Tryz.prog K 176 [.o (.int .i64 n), .o (.int .i64 a), .o (.int .i64 b)] mem fun v m => v = .s (.o (.bool true)) ∧ m = mem :=
  (withinW_ok K mem n a b).mono fun v m ⟨h1, h2⟩ => ⟨by rw [h1, decide_eq_true h], h2⟩
theorem withinW_f (K : Hp) (mem : List Ent) (n a b : Int) (h : ¬ (a ≤ n ∧ n ≤ b)) : TR Tryz.prog K 176 [.o (.int .i64 n), .o (.int .i64 a), .o (.int .i64 b)] mem fun v m => v = .s (.o (.bool false)) ∧ m = mem :=
  (withinW_ok K mem n a b).mono fun v m ⟨h1, h2⟩ => ⟨by rw [h1, decide_eq_false h], h2⟩
theorem withinF_t (K : Hp) (mem : List Ent) (n a b : Int) (h : a ≤ n ∧ n ≤ b) : TR Tryz.prog K 246 [.o (.int .i64 n), .o (.int .i64 a), .o (.int .i64 b)] mem fun v m => v = .s (.o (.bool true)) ∧ m = mem :=
  (withinF_ok K mem n a b).mono fun v m ⟨h1, h2⟩ => ⟨by rw [h1, decide_eq_true h], h2⟩
theorem withinF_f (K : Hp) (mem : List Ent) (n a b : Int) (h : ¬ (a ≤ n ∧ n ≤ b)) : TR Tryz.prog K 246 [.o (.int .i64 n), .o (.int .i64 a), .o (.int .i64 b)] mem fun v m => v = .s (.o (.bool false)) ∧ m = mem :=
  (withinF_ok K mem n a b).mono fun v m ⟨h1, h2⟩ => ⟨by rw [h1, decide_eq_false h], h2⟩
theorem memberNew_ok (K : Hp) (id most : Int) (h1 : 1 ≤ id ∧ id ≤ 65536) (h2 : 1 ≤ most ∧ most ≤ 64) : TR Tryz.prog K 22 [.o (.int .i64 id), .o (.int .i64 most)] []
    fun v r => ∃ bv bm, v = .t [evPtr bv, .o (.int .i64 0)] ∧ r = [.blk bv 143 (viewCh ⟨id, 0, 1, 0⟩ most bm), .map bm ekInt evM []] := by
  refine tr_intro Tryz.func22 rfl rfl rfl fun cx hro hk hret => ?_
  refine sx_seq ?_
  refine sx_region ?_
  refine sxo_pure rfl rfl rfl trivial ?_
  refine sxo_pure rfl rfl rfl trivial ?_
  refine sxo_end ?_
  refine sx_seq ?_
  refine sx_seq ?_
  refine sx_region ?_
  refine sxo_pure rfl rfl rfl trivial ?_
  refine sxo_call0 rfl rfl rfl rfl (by exact .nil) (fun Kc hK hB => withinM_t Kc [] _ _ _ h1) rfl rfl ?_ (hH := by rintro v m ⟨rfl, rfl⟩; (exact hh_nil))
  rintro v m ⟨rfl, rfl⟩
  simp only [List.cons_append, List.nil_append, List.append_nil, resV]
  refine sxo_pure rfl rfl rfl trivial ?_
  refine sxo_pure rfl rfl rfl trivial ?_
  refine sxo_pure rfl rfl rfl trivial ?_
  refine sxo_call0 rfl rfl rfl rfl (by exact .nil) (fun Kc hK hB => withinM_t Kc [] _ _ _ h2) rfl rfl ?_ (hH := by rintro v m ⟨rfl, rfl⟩; (exact hh_nil))
  rintro v m ⟨rfl, rfl⟩
  simp only [List.cons_append, List.nil_append, List.append_nil, resV]
  refine sxo_pure rfl rfl rfl trivial ?_
  refine sxo_pure rfl rfl rfl trivial ?_
  refine sxo_end ?_
  refine sx_condF rfl ?_
  refine sx_skip ?_
  refine sx_seq ?_
  refine sx_region ?_
  refine sxo_pure rfl rfl rfl trivial ?_
  refine sxo_build rfl rfl rfl rfl rfl rfl rfl rfl rfl ?_
  refine sxo_pure rfl rfl rfl trivial ?_
  refine sxo_makeMap ekInt evM rfl rfl rfl rfl (fun bm => ?_)
  refine sxo_build rfl rfl rfl rfl rfl rfl rfl rfl rfl ?_
  refine sxo_box rfl rfl rfl rfl rfl rfl (fun _ => ?_)
  refine sxo_pure rfl rfl rfl trivial ?_
  refine sxo_pure rfl rfl rfl trivial ?_
  refine sxo_end ?_
  refine sx_retL hret hro hk (.tmp rfl (.tmp rfl .nil)) ⟨_, _, rfl, rfl⟩ (by (apply Take.cons; focus exact .head); (apply Take.cons; focus exact .head); exact .nil)
theorem nodup_ne {l : List Int} (h : l.Nodup) {i j : Nat} {a b : Int} (hi : l[i]? = some a) (hj : l[j]? = some b) (hij : i < j) : b ≠ a := fun e => by
  subst e
  have := (List.getElem?_inj (List.getElem?_eq_some_iff.1 hi).1 h).1 (hi.trans hj.symm)
  omega
theorem mdel_len (m : List (Int × Member)) (k : Int) : (mdel m k).length ≤ m.length := by
  have := congrArg List.length (mdel_keys m k)
  rw [List.length_map] at this
  have h2 := List.length_erase_le (a := k) (l := m.map (·.1))
  simp at h2 this; omega
theorem viewTick_ok (K : Hp) (bv bm : Nat) (self : Member) (most : Int) (m : List (Int × Member)) (hm : m.length ≤ 1000000) (hv : VOk m) (now pat : Int) (hn : 0 ≤ now ∧ now ≤ 1099511627776) (hp : 1 ≤ pat ∧ pat ≤ 1048576) :
    TR Tryz.prog K 30 [evPtr bv, .o (.int .i64 now), .o (.int .i64 pat)] [.blk bv 143 (viewCh self most bm), .map bm ekInt evM m]
    fun _ r => ∃ m', VOk m' ∧ m'.length ≤ m.length ∧ r = [.blk bv 143 (viewCh self most bm), .map bm ekInt evM m'] := by
  refine tr_intro Tryz.func30 rfl rfl rfl fun cx hro hk hret => ?_
  refine sx_seq ?_
  refine sx_region ?_
  refine sxo_pure rfl rfl rfl trivial ?_
  refine sxo_pure rfl rfl rfl trivial ?_
  refine sxo_end ?_
  refine sx_seq ?_
  refine sx_seq ?_
  refine sx_region ?_
  refine sxo_pure rfl rfl rfl trivial ?_
  refine sxo_call0 rfl rfl rfl rfl (by exact .nil) (fun Kc hK hB => withinM_t Kc [] _ _ _ hn) rfl rfl ?_ (hH := by rintro v m ⟨rfl, rfl⟩; (exact hh_nil))
  rintro v m ⟨rfl, rfl⟩
  simp only [List.cons_append, List.nil_append, List.append_nil, resV]
  refine sxo_pure rfl rfl rfl trivial ?_
  refine sxo_pure rfl rfl rfl trivial ?_
  refine sxo_pure rfl rfl rfl trivial ?_
  refine sxo_call0 rfl rfl rfl rfl (by exact .nil) (fun Kc hK hB => withinM_t Kc [] _ _ _ hp) rfl rfl ?_ (hH := by rintro v m ⟨rfl, rfl⟩; (exact hh_nil))
  rintro v m ⟨rfl, rfl⟩
  simp only [List.cons_append, List.nil_append, List.append_nil, resV]
  refine sxo_pure rfl rfl rfl trivial ?_
  refine sxo_pure rfl rfl rfl trivial ?_
  refine sxo_end ?_
  refine sx_condF rfl ?_
  refine sx_skip ?_
  refine sx_seq ?_
  refine sx_region ?_
  refine sxo_pure rfl rfl rfl trivial ?_
  refine sxo_end ?_
  refine sx_seq ?_
  refine sx_seq ?_
  refine sx_region ?_
  refine sxo_pure rfl rfl rfl trivial ?_
  refine sxo_call0 rfl rfl rfl rfl (by (apply Take.cons; focus exact .head); (apply Take.cons; focus exact .head); exact .nil) (fun Kc hK hB => All_ok Kc bv bm self most m hm) rfl rfl ?_ (hH := by rintro v m ⟨p, n, c, ks, hks, rfl, rfl⟩; (exact hh_nil))
  rintro v m ⟨p, n, c, ks, hks, rfl, rfl⟩
  simp only [List.cons_append, List.nil_append, List.append_nil, resV]
  refine sxo_len rfl rfl rfl rfl rfl (by exact Reads.own (by exact .head)) rfl rfl ?_
  refine sxo_pure rfl rfl rfl trivial ?_
  refine sxo_end ?_
  refine sx_block ?_
  have hkl : ks.length = m.length := by simpa using hks.length_eq
  generalize hl : (ks.map fun k => (mget m k).getD Member.z) = l
  have hll : l.length = ks.length := by rw [← hl, List.length_map]
  have hid : ∀ (j : Nat) (x : Member), l[j]? = some x → ks[j]? = some x.id := by
    intro j x hx
    rw [← hl, List.getElem?_map, Option.map_eq_some_iff] at hx
    obtain ⟨k, h1, rfl⟩ := hx
    obtain ⟨v, hv1⟩ := mget_mem (hks.mem_iff.1 (List.mem_of_getElem? h1))
    rw [h1, hv1, Option.getD_some, hv.get hv1]
  refine sx_nilVec encI 3 1 ?_
  refine sx_less (by refine .cons rfl ?_; refine .cons rfl ?_; refine .cons rfl ?_; refine .cons rfl ?_; refine .cons rfl ?_; refine .cons rfl ?_; refine .cons rfl ?_; exact .nil _) (by (apply Take.cons; focus exact .head); (apply Take.cons; focus exact .head); (apply Take.cons; focus exact .head); (apply Take.cons; focus exact .head); exact .nil) (sx_loopI (γ := Nat × List (Int × Member) × Sl × List Int) (fun x => x.1 ≤ l.length ∧ VOk x.2.1 ∧ x.2.1.length ≤ m.length ∧ (∀ (j : Nat) (k : Int), x.1 ≤ j → ks[j]? = some k → k ∈ x.2.1.map (·.1)) ∧ x.2.2.2.length ≤ x.1) (fun x => l.length - x.1) (fun x => [(0, .s (evPtr bv)), (1, .s (.o (.int .i64 now))), (2, .s (.o (.int .i64 pat))), (21, .s (.o (.slice p n c))), (22, .s (.o (.int .i64 l.length))), (23, .s (.o (.int .i64 x.1))), (8, .s (.o (.slice x.2.2.1.p x.2.2.1.n x.2.2.1.c)))]) (fun x => [.vec ⟨x.2.2.1.p, x.2.2.1.n, x.2.2.1.c⟩ 3 1 encI x.2.2.2, .vec ⟨p, n, c⟩ 101 4 encM l, .blk bv 143 (viewCh self most bm), .map bm ekInt evM x.2.1]) ((0, m, ⟨none, 0, 0⟩, [])) (⟨by simp, hv, by simp, fun j k _ hj => hks.mem_iff.1 (List.mem_of_getElem? hj), by simp⟩) ?_)
  rintro ⟨i, m1, ⟨p1, n1, c1⟩, o⟩ ⟨h1, h2, h3, h4, h5⟩ ih
  simp only at h1 h2 h3 h4 h5
  have hnd : ks.Nodup := hks.nodup_iff.2 hv.nd
  refine sx_seq ?_
  refine sx_region ?_
  refine sxo_pure rfl rfl rfl trivial ?_
  refine sxo_end ?_
  refine sx_seq ?_
  refine sx_cond rfl (fun h => ?_) (fun h => ?_)
  · simp at h
    refine sx_skip ?_
    refine sx_seq ?_
    refine sx_block ?_
    refine sx_seq ?_
    refine sx_region ?_
    refine sxo_indexAddr rfl rfl rfl rfl rfl rfl rfl (Reads.own (by exact .tail .head)) (by omega) rfl (fun _ _ => ?_)
    refine sxo_loadEl0 rfl rfl rfl (by exact .head) (Reads.own (by exact .tail (.tail .head))) rfl (by omega) (fun _ => rfl) rfl rfl (fun x hx => ?_)
    refine sxo_alloc rfl rfl rfl rfl rfl rfl (fun _ => ?_)
    refine sxo_store rfl rfl rfl rfl (by exact .head) rfl rfl rfl rfl rfl ?_
    refine sxo_end ?_
    refine sx_seq ?_
    refine sx_region ?_
    refine sxo_pure rfl rfl rfl trivial ?_
    refine sxo_pure rfl rfl rfl trivial ?_
    refine sxo_load rfl rfl rfl (by exact .head) rfl rfl rfl rfl ?_
    refine sxo_wrap rfl rfl rfl rfl rfl rfl ?_
    refine sxo_pure rfl rfl rfl trivial ?_
    refine sxo_end ?_
    refine sx_block ?_
    refine sx_seq ?_
    refine sx_region ?_
    refine sxo_pure rfl rfl rfl trivial ?_
    refine sxo_load rfl rfl rfl (by exact .head) rfl rfl rfl rfl ?_
    refine sxo_pure rfl rfl rfl trivial ?_
    refine sxo_pure rfl rfl rfl trivial ?_
    have hx' : l[i]? = some x := by simpa using hx
    have hxi := hid i x hx'
    refine sxo_split (t := 35) rfl (fun hd => ?_) (fun hd => ?_)
    · refine sxo_pure rfl rfl rfl trivial ?_
      refine sxo_pure rfl rfl rfl trivial ?_
      refine sxo_pure rfl rfl rfl (by omega) ?_
      refine sxo_pure rfl rfl rfl trivial ?_
      refine sxo_pure rfl rfl rfl trivial ?_
      refine sxo_pure rfl rfl rfl trivial ?_
      refine sxo_end ?_
      refine sx_cond rfl (fun h => ?_) (fun h => ?_)
      · refine sx_drawN 9 (by kernel_rfl) [0, 1, 2, 3, 4, 5, 6] [] (by kernel_rfl) ?_
        refine sxo_pure rfl rfl rfl trivial ?_
        refine sxo_pure rfl rfl rfl trivial ?_
        refine sxo_pure rfl rfl rfl trivial ?_
        refine sxo_load rfl rfl rfl (by exact .tail (.tail (.tail (.tail .head)))) rfl rfl rfl rfl ?_
        refine sxo_pure rfl rfl rfl trivial ?_
        refine sxo_load rfl rfl rfl (by exact .head) rfl rfl rfl rfl ?_
        refine sxo_delete ekInt rfl rfl rfl rfl (by exact .tail (.tail (.tail (.tail (.tail .head))))) rfl rfl (kt_int rfl rfl) rfl rfl ?_
        refine sxo_end ?_
        refine sx_inBlock ?_
        refine sx_inBlock ?_
        refine sx_region ?_
        refine sxo_pure rfl rfl rfl (by omega) ?_
        refine sxo_pure rfl rfl rfl trivial ?_
        refine sxo_end ?_
        have hne : ∀ (j : Nat) (k : Int), i + 1 ≤ j → ks[j]? = some k → k ≠ x.id := fun j k hj hk => nodup_ne hnd hxi hk (by omega)
        refine sx_less (by refine .cons rfl ?_; refine .cons rfl ?_; refine .cons rfl ?_; refine .cons rfl ?_; refine .cons rfl ?_; refine .cons rfl ?_; refine .cons rfl ?_; exact .nil _) (by (apply Take.cons; focus exact .tail (.tail (.tail .head))); (apply Take.cons; focus exact .tail (.tail (.tail .head))); (apply Take.cons; focus exact .tail (.tail (.tail .head))); (apply Take.cons; focus exact .head); exact .nil) (ih ((i + 1, mdel m1 x.id, ⟨p1, n1, c1⟩, o)) (⟨by simp only; omega, h2.del _, by simp only; have := mdel_len m1 x.id; omega, fun j k hj hk => by simp only at hj ⊢; rw [mdel_keys]; exact (List.mem_erase_of_ne (hne j k hj hk)).2 (h4 j k (by omega) hk), by simp only; omega⟩) (by simp only; omega))
      · refine sx_seq ?_
        refine sx_region ?_
        refine sxo_pure rfl rfl rfl trivial ?_
        refine sxo_load rfl rfl rfl (by exact .head) rfl rfl rfl rfl ?_
        refine sxo_pure rfl rfl rfl trivial ?_
        refine sxo_pure rfl rfl rfl trivial ?_
        refine sxo_split (t := 51) rfl (fun hd => ?_) (fun hd => ?_)
        · refine sxo_pure rfl rfl rfl trivial ?_
          refine sxo_pure rfl rfl rfl trivial ?_
          refine sxo_pure rfl rfl rfl trivial ?_
          refine sxo_pure rfl rfl rfl trivial ?_
          refine sxo_pure rfl rfl rfl trivial ?_
          refine sxo_end ?_
          refine sx_cond rfl (fun h => ?_) (fun h => ?_)
          · refine sx_seq ?_
            refine sx_region ?_
            refine sxo_pure rfl rfl rfl trivial ?_
            refine sxo_pure rfl rfl rfl trivial ?_
            refine sxo_load rfl rfl rfl (by exact .head) rfl rfl rfl rfl ?_
            refine sxo_pure rfl rfl rfl trivial ?_
            refine sxo_call0 rfl rfl rfl rfl (by (apply Take.cons; focus exact .tail (.tail (.tail (.tail .head)))); (apply Take.cons; focus exact .tail (.tail (.tail (.tail .head)))); exact .nil) (fun Kc hK hB => turn_ok Kc bv bm self most m1 x.id 3 now) rfl rfl ?_ (hH := by rintro v m rfl; (exact hh_nil))
            rintro v m rfl
            simp only [List.cons_append, List.nil_append, List.append_nil, resV]
            have hmem := h4 i x.id (Nat.le_refl _) hxi
            obtain ⟨v, hv1⟩ := mget_mem hmem
            have hvid := h2.get hv1
            refine sxo_end ?_
            refine sx_region ?_
            refine sxo_pure rfl rfl rfl trivial ?_
            refine sxo_pure rfl rfl rfl trivial ?_
            refine sxo_load rfl rfl rfl (by exact .tail (.tail .head)) rfl rfl rfl rfl ?_
            refine sxo_buildSlice rfl rfl rfl rfl rfl rfl rfl rfl rfl rfl rfl rfl rfl (fun _ => ?_)
            refine sxo_append (lx := [x.id]) rfl rfl rfl rfl rfl rfl rfl rfl rfl rfl (by exact .tail (.tail (.tail (.tail (.tail .head))))) (Reads.one (by exact .head) rfl rfl) (fun _ => rfl) rfl rfl rfl (by simp; omega) (fun p2 n2 c2 => ?_)
            refine sxo_pure rfl rfl rfl trivial ?_
            refine sxo_end ?_
            refine sx_inBlock ?_
            refine sx_inBlock ?_
            refine sx_region ?_
            refine sxo_pure rfl rfl rfl (by omega) ?_
            refine sxo_pure rfl rfl rfl trivial ?_
            refine sxo_end ?_
            refine sx_less (by refine .cons rfl ?_; refine .cons rfl ?_; refine .cons rfl ?_; refine .cons rfl ?_; refine .cons rfl ?_; refine .cons rfl ?_; refine .cons rfl ?_; exact .nil _) (by (apply Take.cons; focus exact .head); (apply Take.cons; focus exact .tail (.tail (.tail (.tail (.tail .head))))); (apply Take.cons; focus exact .tail .head); (apply Take.cons; focus exact .tail .head); exact .nil) (ih ((i + 1, mput m1 x.id { (mget m1 x.id).getD Member.z with state := 3, since := now }, ⟨p2, n2, c2⟩, o ++ [x.id])) (⟨by simp only; omega, h2.put (by simp only [hv1, Option.getD_some]; exact hvid), by simp only; rw [mput_length, if_pos hmem]; exact h3, fun j k hj hk => by simp only at hj ⊢; rw [mput_keys, if_pos hmem]; exact h4 j k (by omega) hk, by simp; omega⟩) (by simp only; omega))
          · refine sx_skip ?_
            refine sx_inBlock ?_
            refine sx_inBlock ?_
            refine sx_region ?_
            refine sxo_pure rfl rfl rfl (by omega) ?_
            refine sxo_pure rfl rfl rfl trivial ?_
            refine sxo_end ?_
            refine sx_less (by refine .cons rfl ?_; refine .cons rfl ?_; refine .cons rfl ?_; refine .cons rfl ?_; refine .cons rfl ?_; refine .cons rfl ?_; refine .cons rfl ?_; exact .nil _) (by (apply Take.cons; focus exact .tail (.tail .head)); (apply Take.cons; focus exact .tail (.tail .head)); (apply Take.cons; focus exact .tail (.tail .head)); (apply Take.cons; focus exact .tail (.tail .head)); exact .nil) (ih ((i + 1, m1, ⟨p1, n1, c1⟩, o)) (⟨by simp only; omega, h2, h3, fun j k hj => h4 j k (by simp only at hj; omega), by simp only; omega⟩) (by simp only; omega))
        · refine sxo_pass rfl rfl rfl ?_
          refine sxo_pass rfl rfl rfl ?_
          refine sxo_pass rfl rfl rfl ?_
          refine sxo_pure rfl rfl rfl trivial ?_
          refine sxo_pure rfl rfl rfl trivial ?_
          refine sxo_end ?_
          refine sx_condF rfl ?_
          refine sx_skip ?_
          refine sx_inBlock ?_
          refine sx_inBlock ?_
          refine sx_region ?_
          refine sxo_pure rfl rfl rfl (by omega) ?_
          refine sxo_pure rfl rfl rfl trivial ?_
          refine sxo_end ?_
          refine sx_less (by refine .cons rfl ?_; refine .cons rfl ?_; refine .cons rfl ?_; refine .cons rfl ?_; refine .cons rfl ?_; refine .cons rfl ?_; refine .cons rfl ?_; exact .nil _) (by (apply Take.cons; focus exact .tail (.tail .head)); (apply Take.cons; focus exact .tail (.tail .head)); (apply Take.cons; focus exact .tail (.tail .head)); (apply Take.cons; focus exact .tail (.tail .head)); exact .nil) (ih ((i + 1, m1, ⟨p1, n1, c1⟩, o)) (⟨by simp only; omega, h2, h3, fun j k hj => h4 j k (by simp only at hj; omega), by simp only; omega⟩) (by simp only; omega))
    · refine sxo_pass rfl rfl rfl ?_
      refine sxo_pass rfl rfl rfl ?_
      refine sxo_pass rfl rfl rfl ?_
      refine sxo_pass rfl rfl rfl ?_
      refine sxo_pure rfl rfl rfl trivial ?_
      refine sxo_pure rfl rfl rfl trivial ?_
      refine sxo_end ?_
      refine sx_condF rfl ?_
      refine sx_seq ?_
      refine sx_region ?_
      refine sxo_pure rfl rfl rfl trivial ?_
      refine sxo_load rfl rfl rfl (by exact .head) rfl rfl rfl rfl ?_
      refine sxo_pure rfl rfl rfl trivial ?_
      refine sxo_pure rfl rfl rfl trivial ?_
      refine sxo_split (t := 51) rfl (fun hd => ?_) (fun hd => ?_)
      · refine sxo_pure rfl rfl rfl trivial ?_
        refine sxo_pure rfl rfl rfl trivial ?_
        refine sxo_pure rfl rfl rfl trivial ?_
        refine sxo_pure rfl rfl rfl trivial ?_
        refine sxo_pure rfl rfl rfl trivial ?_
        refine sxo_end ?_
        refine sx_cond rfl (fun h => ?_) (fun h => ?_)
        · refine sx_seq ?_
          refine sx_region ?_
          refine sxo_pure rfl rfl rfl trivial ?_
          refine sxo_pure rfl rfl rfl trivial ?_
          refine sxo_load rfl rfl rfl (by exact .head) rfl rfl rfl rfl ?_
          refine sxo_pure rfl rfl rfl trivial ?_
          refine sxo_call0 rfl rfl rfl rfl (by (apply Take.cons; focus exact .tail (.tail (.tail (.tail .head)))); (apply Take.cons; focus exact .tail (.tail (.tail (.tail .head)))); exact .nil) (fun Kc hK hB => turn_ok Kc bv bm self most m1 x.id 3 now) rfl rfl ?_ (hH := by rintro v m rfl; (exact hh_nil))
          rintro v m rfl
          simp only [List.cons_append, List.nil_append, List.append_nil, resV]
          have hmem := h4 i x.id (Nat.le_refl _) hxi
          obtain ⟨v, hv1⟩ := mget_mem hmem
          have hvid := h2.get hv1
          refine sxo_end ?_
          refine sx_region ?_
          refine sxo_pure rfl rfl rfl trivial ?_
          refine sxo_pure rfl rfl rfl trivial ?_
          refine sxo_load rfl rfl rfl (by exact .tail (.tail .head)) rfl rfl rfl rfl ?_
          refine sxo_buildSlice rfl rfl rfl rfl rfl rfl rfl rfl rfl rfl rfl rfl rfl (fun _ => ?_)
          refine sxo_append (lx := [x.id]) rfl rfl rfl rfl rfl rfl rfl rfl rfl rfl (by exact .tail (.tail (.tail (.tail (.tail .head))))) (Reads.one (by exact .head) rfl rfl) (fun _ => rfl) rfl rfl rfl (by simp; omega) (fun p2 n2 c2 => ?_)
          refine sxo_pure rfl rfl rfl trivial ?_
          refine sxo_end ?_
          refine sx_inBlock ?_
          refine sx_inBlock ?_
          refine sx_region ?_
          refine sxo_pure rfl rfl rfl (by omega) ?_
          refine sxo_pure rfl rfl rfl trivial ?_
          refine sxo_end ?_
          refine sx_less (by refine .cons rfl ?_; refine .cons rfl ?_; refine .cons rfl ?_; refine .cons rfl ?_; refine .cons rfl ?_; refine .cons rfl ?_; refine .cons rfl ?_; exact .nil _) (by (apply Take.cons; focus exact .head); (apply Take.cons; focus exact .tail (.tail (.tail (.tail (.tail .head))))); (apply Take.cons; focus exact .tail .head); (apply Take.cons; focus exact .tail .head); exact .nil) (ih ((i + 1, mput m1 x.id { (mget m1 x.id).getD Member.z with state := 3, since := now }, ⟨p2, n2, c2⟩, o ++ [x.id])) (⟨by simp only; omega, h2.put (by simp only [hv1, Option.getD_some]; exact hvid), by simp only; rw [mput_length, if_pos hmem]; exact h3, fun j k hj hk => by simp only at hj ⊢; rw [mput_keys, if_pos hmem]; exact h4 j k (by omega) hk, by simp; omega⟩) (by simp only; omega))
        · refine sx_skip ?_
          refine sx_inBlock ?_
          refine sx_inBlock ?_
          refine sx_region ?_
          refine sxo_pure rfl rfl rfl (by omega) ?_
          refine sxo_pure rfl rfl rfl trivial ?_
          refine sxo_end ?_
          refine sx_less (by refine .cons rfl ?_; refine .cons rfl ?_; refine .cons rfl ?_; refine .cons rfl ?_; refine .cons rfl ?_; refine .cons rfl ?_; refine .cons rfl ?_; exact .nil _) (by (apply Take.cons; focus exact .tail (.tail .head)); (apply Take.cons; focus exact .tail (.tail .head)); (apply Take.cons; focus exact .tail (.tail .head)); (apply Take.cons; focus exact .tail (.tail .head)); exact .nil) (ih ((i + 1, m1, ⟨p1, n1, c1⟩, o)) (⟨by simp only; omega, h2, h3, fun j k hj => h4 j k (by simp only at hj; omega), by simp only; omega⟩) (by simp only; omega))
      · refine sxo_pass rfl rfl rfl ?_
        refine sxo_pass rfl rfl rfl ?_
        refine sxo_pass rfl rfl rfl ?_
        refine sxo_pure rfl rfl rfl trivial ?_
        refine sxo_pure rfl rfl rfl trivial ?_
        refine sxo_end ?_
        refine sx_condF rfl ?_
        refine sx_skip ?_
        refine sx_inBlock ?_
        refine sx_inBlock ?_
        refine sx_region ?_
        refine sxo_pure rfl rfl rfl (by omega) ?_
        refine sxo_pure rfl rfl rfl trivial ?_
        refine sxo_end ?_
        refine sx_less (by refine .cons rfl ?_; refine .cons rfl ?_; refine .cons rfl ?_; refine .cons rfl ?_; refine .cons rfl ?_; refine .cons rfl ?_; refine .cons rfl ?_; exact .nil _) (by (apply Take.cons; focus exact .tail (.tail .head)); (apply Take.cons; focus exact .tail (.tail .head)); (apply Take.cons; focus exact .tail (.tail .head)); (apply Take.cons; focus exact .tail (.tail .head)); exact .nil) (ih ((i + 1, m1, ⟨p1, n1, c1⟩, o)) (⟨by simp only; omega, h2, h3, fun j k hj => h4 j k (by simp only at hj; omega), by simp only; omega⟩) (by simp only; omega))
  · refine sx_exit rfl ?_
    refine sx_seq ?_
    refine sx_region ?_
    refine sxo_pure rfl rfl rfl trivial ?_
    refine sxo_pure rfl rfl rfl trivial ?_
    refine sxo_pure rfl rfl rfl trivial ?_
    refine sxo_end ?_
    refine sx_retL hret hro hk (.tmp rfl (.tmp rfl .nil)) ⟨m1, h2, h3, rfl⟩ (by (apply Take.cons; focus exact .tail (.tail .head)); (apply Take.cons; focus exact .tail (.tail .head)); exact .nil)
end Go.SX
