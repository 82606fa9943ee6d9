/-
  slices.Sort and slices.Sorted, by the shelf's contracts.
  Small functions: comparisons, looks into lists of integers, the source of numbers.
  The package draw: numbers that look like chance.
  Shuffle and Sample.
  The package member.
  member: the view.
-/
import Derived.Test.YtbeokgkcndcahaaGreatDoorQ09
set_option linter.all false
namespace Go.SX
open Go.Proofs
attribute [local irreducible] SX SXo
def le_ (x y : Int) : Bool := decide (x ≤ y)
theorem SortInt_ok (K : Hp) (p : Option Addr) (n c : Nat) (l : List Int) (hl : l.length < 4611686018427387904) : TR Tryz.prog K 151 [.o (.slice p n c)] [.vec ⟨p, n, c⟩ 3 1 encI l]
    fun _ m => m = [.vec ⟨p, n, c⟩ 3 1 encI (l.mergeSort le_)] := by
  refine ⟨⟨_, Tryz.func151, rfl, rfl⟩, fun w s => ?_⟩
  by_cases hp : ∃ b o, p = some ⟨b, o, none⟩
  · obtain ⟨b, o, rfl⟩ := hp
    obtain ⟨h1, h2, rfl⟩ := vec_holds (Value.int .i64) s.vec
    refine (Tryz.slices_Sort_int b o c l w h1 h2 hl).mono ?_
    rintro e w' ⟨rfl, k, os, rfl⟩
    exact ⟨.t [], _, rfl, rfl, vec_sorted (Value.int .i64) (d := l.mergeSort le_) (List.length_mergeSort l) s, rfl, rfl⟩
  · have hv := s.vec
    rcases hv with ⟨h1, h2, h3, rfl⟩ | ⟨b, o, _, h1, _⟩
    · have h1' : p = none := h1
      have h2' : n = 0 := h2
      subst h1'; subst h2'
      refine (Tryz.slices_Sort_int_none none c w).mono ?_
      rintro e w' ⟨rfl, rfl⟩
      exact ⟨.t [], _, rfl, by rw [List.mergeSort_nil], s, rfl, rfl⟩
    · exact absurd ⟨b, o, h1⟩ hp
theorem SortStr_ok (K : Hp) (p : Option Addr) (n c : Nat) (l : List ByteArray) (hl : l.length < 4611686018427387904) : TR Tryz.prog K 209 [.o (.slice p n c)] [.vec ⟨p, n, c⟩ 9 1 encS l]
    fun _ m => m = [.vec ⟨p, n, c⟩ 9 1 encS (sortS l)] := by
  refine ⟨⟨_, Tryz.func209, rfl, rfl⟩, fun w s => ?_⟩
  by_cases hp : ∃ b o, p = some ⟨b, o, none⟩
  · obtain ⟨b, o, rfl⟩ := hp
    obtain ⟨h1, h2, rfl⟩ := vec_holds Value.string s.vec
    have h1' : Sort.Holds Go.Proofs.encStr w b o (l.map fun s => s.data.toList).toArray := by
      intro j hj
      have hj' : j < l.length := by simpa using hj
      have := h1 j (by simpa using hj')
      simp only [List.getElem!_toArray, List.getElem!_eq_getElem?_getD] at this ⊢
      simp only [List.getElem?_map, List.getElem?_eq_getElem hj', Option.map_some, Option.getD_some] at this ⊢
      exact this
    have hc := Tryz.slices_Sort_string b o c (l.map fun s => s.data.toList) w h1' h2 (by simpa using hl)
    rw [List.length_map] at hc
    refine hc.mono ?_
    rintro e w' ⟨rfl, k, os, rfl⟩
    have key : Sort.putRow Go.Proofs.encStr (Sort.ahead w k) b o ((l.map fun s => s.data.toList).mergeSort fun x y => decide (x ≤ y)).toArray = Sort.putRow Value.string (Sort.ahead w k) b o (sortS l).toArray := by
      unfold Sort.putRow
      congr 1
      funext cs
      unfold Sort.putCells
      congr 1
      funext q x
      simp only [sortS, List.size_toArray, List.length_map]
      split
      · rename_i hq
        have hq' : q - o < ((l.map fun s => s.data.toList).mergeSort fun x y => decide (x ≤ y)).length := by simp; simp at hq; omega
        simp only [List.getElem!_toArray, List.getElem!_eq_getElem?_getD, List.getElem?_map, List.getElem?_eq_getElem hq', Option.map_some, Option.getD_some]
      · rfl
    refine ⟨.t [], _, rfl, rfl, ?_, rfl, rfl⟩
    rw [key]
    exact vec_sorted Value.string (d := sortS l) (by simp [sortS]) s
  · have hv := s.vec
    rcases hv with ⟨h1, h2, h3, rfl⟩ | ⟨b, o, _, h1, _⟩
    · have h1' : p = none := h1
      have h2' : n = 0 := h2
      subst h1'; subst h2'
      refine (Tryz.slices_Sort_string_none none c w).mono ?_
      rintro e w' ⟨rfl, rfl⟩
      exact ⟨.t [], _, rfl, by simp [sortS], s, rfl, rfl⟩
    · exact absurd ⟨b, o, h1⟩ hp
theorem SortedInt_ok (K : Hp) (f : FuncId) (cap : List SV1) (M : List Ent) (B : Nat) (Pm : List Int → Prop) (hB : B * 8 ≤ 140737488355328) (hlen : ∀ l, Pm l → l.length < 4611686018427387904) (hS : SeqV Tryz.prog K f cap M ekInt B Pm) :
    TR Tryz.prog K 69 [.o (.func (.func f) #[] (cap.map SV1.val).toArray)] M
      fun v m => ∃ p' n' c' l, Pm l ∧ v = .s (.o (.slice p' n' c')) ∧ m = .vec ⟨p', n', c'⟩ 3 1 encI ((fun l => l.mergeSort le_) l) :: M := by
  refine tr_intro Tryz.func69 rfl rfl rfl fun cx hro hk hret => ?_
  refine sx_seq ?_
  refine sx_region ?_
  refine sxo_pure rfl rfl rfl trivial ?_
  refine sxo_end ?_
  refine sx_seq ?_
  refine sx_region ?_
  refine sxo_pure rfl rfl rfl trivial ?_
  refine sxo_call [.o (.func (.func f) #[] (cap.map SV1.val).toArray)] rfl rfl rfl rfl rfl .all rfl rfl (fun Kc hK _ => AppIntC_ok Kc f cap M B Pm hB (fun Kd hd => hS Kd (hK.trans hd))) ?_
  rintro v m ⟨p', n', c', l, hl, rfl, rfl⟩
  simp only [List.append_nil]
  refine sxo_pure rfl rfl rfl trivial ?_
  refine sxo_end ?_
  refine sx_seq ?_
  refine sx_region ?_
  refine sxo_pure rfl rfl rfl trivial ?_
  refine sxo_call [.o (.slice p' n' c')] rfl rfl rfl rfl rfl (.cons .head .nil) rfl rfl (fun Kc hK _ => SortInt_ok Kc p' n' c' l (hlen l hl)) ?_
  rintro v m rfl
  simp only [List.cons_append, List.nil_append]
  refine sxo_end ?_
  refine sx_seq ?_
  refine sx_region ?_
  refine sxo_pure rfl rfl rfl trivial ?_
  refine sxo_pure rfl rfl rfl trivial ?_
  refine sxo_end ?_
  refine sx_ret hret hro hk (.tmp rfl .nil) ⟨_, _, _, _, hl, rfl, rfl⟩
theorem SortedStr_ok (K : Hp) (f : FuncId) (cap : List SV1) (M : List Ent) (B : Nat) (Pm : List ByteArray → Prop) (hB : B * 16 ≤ 140737488355328) (hlen : ∀ l, Pm l → l.length < 4611686018427387904) (hS : SeqV Tryz.prog K f cap M ekStr B Pm) :
    TR Tryz.prog K 112 [.o (.func (.func f) #[] (cap.map SV1.val).toArray)] M
      fun v m => ∃ p' n' c' l, Pm l ∧ v = .s (.o (.slice p' n' c')) ∧ m = .vec ⟨p', n', c'⟩ 9 1 encS (sortS l) :: M := by
  refine tr_intro Tryz.func112 rfl rfl rfl fun cx hro hk hret => ?_
  refine sx_seq ?_
  refine sx_region ?_
  refine sxo_pure rfl rfl rfl trivial ?_
  refine sxo_end ?_
  refine sx_seq ?_
  refine sx_region ?_
  refine sxo_pure rfl rfl rfl trivial ?_
  refine sxo_call [.o (.func (.func f) #[] (cap.map SV1.val).toArray)] rfl rfl rfl rfl rfl .all rfl rfl (fun Kc hK _ => AppStrC_ok Kc f cap M B Pm hB (fun Kd hd => hS Kd (hK.trans hd))) ?_
  rintro v m ⟨p', n', c', l, hl, rfl, rfl⟩
  simp only [List.append_nil]
  refine sxo_pure rfl rfl rfl trivial ?_
  refine sxo_end ?_
  refine sx_seq ?_
  refine sx_region ?_
  refine sxo_pure rfl rfl rfl trivial ?_
  refine sxo_call [.o (.slice p' n' c')] rfl rfl rfl rfl rfl (.cons .head .nil) rfl rfl (fun Kc hK _ => SortStr_ok Kc p' n' c' l (hlen l hl)) ?_
  rintro v m rfl
  simp only [List.cons_append, List.nil_append]
  refine sxo_end ?_
  refine sx_seq ?_
  refine sx_region ?_
  refine sxo_pure rfl rfl rfl trivial ?_
  refine sxo_pure rfl rfl rfl trivial ?_
  refine sxo_end ?_
  refine sx_ret hret hro hk (.tmp rfl .nil) ⟨_, _, _, _, hl, rfl, rfl⟩
end Go.SX

namespace Go.SX
open Go.Proofs
attribute [local irreducible] SX SXo
def orI : List Int → Int
  | [] => 0
  | x :: r => if x = 0 then orI r else x
theorem Or_ok (K : Hp) (mem : List Ent) (p : Option Addr) (n c : Nat) (l : List Int) (hv : Reads K mem ⟨p, n, c⟩ 3 1 encI l) (hl : l.length < 4611686018427387904) : TR Tryz.prog K 257 [.o (.slice p n c)] mem
    fun v m => v = .s (.o (.int .i64 (orI l))) ∧ m = mem := by
  refine tr_intro Tryz.func257 rfl rfl rfl fun cx hro hk hret => ?_
  refine sx_seq ?_
  refine sx_region ?_
  refine sxo_pure rfl rfl rfl trivial ?_
  refine sxo_end ?_
  refine sx_seq ?_
  refine sx_region ?_
  refine sxo_pure rfl rfl rfl trivial ?_
  refine sxo_end ?_
  refine sx_seq ?_
  refine sx_seq ?_
  refine sx_region ?_
  refine sxo_pure rfl rfl rfl trivial ?_
  refine sxo_len rfl rfl rfl rfl rfl (by assumption) rfl rfl ?_
  refine sxo_pure rfl rfl rfl trivial ?_
  refine sxo_end ?_
  refine sx_block ?_
  refine sx_loopI (γ := Nat) (fun j => j ≤ l.length ∧ orI (l.drop j) = orI l) (fun j => l.length - j) (fun j => [(3, .s (.o (.int .i64 0))), (6, .s (.o (.slice p n c))), (7, .s (.o (.int .i64 l.length))), (8, .s (.o (.int .i64 j)))]) (fun _ => mem) 0 ⟨by omega, by simp⟩ ?_ |> sx_less (.cons rfl (.cons rfl (.cons rfl (.cons rfl (.nil _))))) .all
  rintro j ⟨hj, ho⟩ ih
  refine sx_seq ?_
  refine sx_region ?_
  refine sxo_pure rfl rfl rfl trivial ?_
  refine sxo_end ?_
  refine sx_seq ?_
  refine sx_cond rfl (fun h => ?_) (fun h => ?_)
  · simp at h
    refine sx_skip ?_
    refine sx_seq ?_
    refine sx_block ?_
    refine sx_seq ?_
    refine sx_region ?_
    refine sxo_indexAddr rfl rfl rfl rfl rfl rfl rfl hv (by omega) rfl (fun b off => ?_)
    skip
    refine sxo_loadEl0 rfl rfl rfl .head hv.skip rfl (by omega) (fun _ => rfl) rfl rfl (fun x hx => ?_)
    have hd : l.drop j = x :: l.drop (j + 1) := by
      simp at hx
      obtain ⟨h1, h2⟩ := List.getElem?_eq_some_iff.1 hx
      rw [List.drop_eq_getElem_cons h1, h2]
    rw [hd, orI] at ho
    refine sxo_pure rfl rfl rfl trivial ?_
    refine sxo_end ?_
    refine sx_seq ?_
    refine sx_region ?_
    refine sxo_pure rfl rfl rfl trivial ?_
    refine sxo_pure rfl rfl rfl trivial ?_
    refine sxo_pure rfl rfl rfl trivial ?_
    refine sxo_end ?_
    refine sx_cond rfl (fun h2 => ?_) (fun h2 => ?_)
    · simp at h2
      refine sx_seq ?_
      refine sx_region ?_
      refine sxo_pure rfl rfl rfl trivial ?_
      refine sxo_pure rfl rfl rfl trivial ?_
      refine sxo_end ?_
      refine sx_less (M := mem) (.cons (t := 2) rfl (.nil _)) (.skip .all) ?_
      refine sx_ret hret hro hk (.tmp rfl .nil) ⟨?_, rfl⟩
      rw [if_neg h2] at ho
      rw [← ho]; rfl
    · simp at h2
      rw [if_pos h2] at ho
      refine sx_skip ?_
      refine sx_inBlock ?_
      refine sx_region ?_
      refine sxo_pure rfl rfl rfl (by omega) ?_
      refine sxo_pure rfl rfl rfl trivial ?_
      refine sxo_end ?_
      exact sx_less (.cons rfl (.cons rfl (.cons rfl (.cons (by simp [look]; rfl) (.nil _))))) (.skip .all) (ih (j + 1) ⟨by omega, ho⟩ (by omega))
  · simp at h
    refine sx_exit rfl ?_
    refine sx_seq ?_
    refine sx_region ?_
    refine sxo_pure rfl rfl rfl trivial ?_
    refine sxo_pure rfl rfl rfl trivial ?_
    refine sxo_end ?_
    refine sx_ret hret hro hk (.tmp rfl .nil) ⟨?_, rfl⟩
    have : j = l.length := by omega
    subst this
    simp [orI] at ho
    rw [← ho]; rfl
theorem tr_of_still {P : Program} {K : Hp} {f : FuncId} {args : List SV1} {mem : List Ent} {v : SV} (can : Callable P f) (h : ∀ w, Calls P f (args.map SV1.val).toArray w fun e w' => e = .returned v.val ∧ w' = w) : TR P K f args mem fun u m => u = v ∧ m = mem :=
  ⟨can, fun w s => (h w).mono fun e w' ⟨h1, h2⟩ => ⟨v, mem, h1, ⟨rfl, rfl⟩, h2 ▸ s, by rw [h2], by rw [h2]⟩⟩
/-- What cmp.Compare says. -/
def cmpI (x y : Int) : Int := if x < y then -1 else if y < x then 1 else 0
theorem isNaN_ok (K : Hp) (mem : List Ent) (x : Int) : TR Tryz.prog K 345 [.o (.int .i64 x)] mem fun v m => v = .s (.o (.bool false)) ∧ m = mem :=
  tr_of_still ⟨_, Tryz.func345, rfl, rfl⟩ (Tryz.cmp_isNaN_int x)
theorem Compare_ok (K : Hp) (mem : List Ent) (x y : Int) : TR Tryz.prog K 258 [.o (.int .i64 x), .o (.int .i64 y)] mem fun v m => v = .s (.o (.int .i64 (cmpI x y))) ∧ m = mem := by
  refine tr_intro Tryz.func258 rfl rfl rfl fun cx hro hk hret => ?_
  refine sx_seq ?_
  refine sx_region ?_
  refine sxo_pure rfl rfl rfl trivial ?_
  refine sxo_end ?_
  refine sx_seq ?_
  refine sx_region ?_
  refine sxo_pure rfl rfl rfl trivial ?_
  refine sxo_call [.o (.int .i64 x)] rfl rfl rfl rfl rfl .nil rfl rfl (fun Kc _ _ => isNaN_ok Kc [] x) ?_
  rintro v m ⟨rfl, rfl⟩
  refine sxo_pure rfl rfl rfl trivial ?_
  refine sxo_end ?_
  refine sx_seq ?_
  refine sx_region ?_
  refine sxo_pure rfl rfl rfl trivial ?_
  refine sxo_call [.o (.int .i64 y)] rfl rfl rfl rfl rfl .nil rfl rfl (fun Kc _ _ => isNaN_ok Kc [] y) ?_
  rintro v m ⟨rfl, rfl⟩
  refine sxo_pure rfl rfl rfl trivial ?_
  refine sxo_end ?_
  refine sx_seq ?_
  refine sx_seq ?_
  refine sx_region ?_
  refine sxo_pure rfl rfl rfl trivial ?_
  refine sxo_end ?_
  refine sx_condF rfl ?_
  refine sx_skip ?_
  refine sx_seq ?_
  refine sx_seq ?_
  refine sx_region ?_
  refine sxo_pure rfl rfl rfl trivial ?_
  refine sxo_end ?_
  refine sx_condF rfl ?_
  refine sx_skip ?_
  refine sx_seq ?_
  refine sx_seq ?_
  refine sx_region ?_
  refine sxo_pure rfl rfl rfl trivial ?_
  refine sxo_pure rfl rfl rfl trivial ?_
  refine sxo_pure rfl rfl rfl trivial ?_
  refine sxo_end ?_
  refine sx_cond rfl (fun h => ?_) (fun h => ?_)
  · simp at h
    refine sx_seq ?_
    refine sx_region ?_
    refine sxo_pure rfl rfl rfl trivial ?_
    refine sxo_end ?_
    refine sx_ret hret hro hk (.tmp rfl .nil) ⟨by simp [resV, cmpI, h], rfl⟩
  · simp at h
    refine sx_skip ?_
    refine sx_seq ?_
    refine sx_seq ?_
    refine sx_region ?_
    refine sxo_pure rfl rfl rfl trivial ?_
    refine sxo_pure rfl rfl rfl trivial ?_
    refine sxo_pure rfl rfl rfl trivial ?_
    refine sxo_end ?_
    refine sx_cond rfl (fun h2 => ?_) (fun h2 => ?_)
    · simp at h2
      refine sx_seq ?_
      refine sx_region ?_
      refine sxo_pure rfl rfl rfl trivial ?_
      refine sxo_end ?_
      refine sx_ret hret hro hk (.tmp rfl .nil) ⟨by simp [resV, cmpI, h2, show ¬ x < y by omega], rfl⟩
    · simp at h2
      refine sx_skip ?_
      refine sx_seq ?_
      refine sx_region ?_
      refine sxo_pure rfl rfl rfl trivial ?_
      refine sxo_end ?_
      refine sx_ret hret hro hk (.tmp rfl .nil) ⟨by simp [resV, cmpI, show ¬ x < y by omega, show ¬ y < x by omega], rfl⟩
/-- The place of the first one that is so; -1: there is none. -/
def idxI (v : Int) : List Int → Nat → Int
  | [], _ => -1
  | x :: r, i => if v = x then i else idxI v r (i + 1)
theorem idxI_ge (v : Int) : ∀ (l : List Int) (i : Nat), (0 ≤ idxI v l i ↔ v ∈ l)
  | [], _ => by simp [idxI]
  | x :: r, i => by
    unfold idxI
    split
    · rename_i h; simp [h]
    · rename_i h; simp [h, idxI_ge v r (i + 1)]
theorem Index_ok (K : Hp) (mem : List Ent) (p : Option Addr) (n c : Nat) (l : List Int) (v : Int) (hv : Reads K mem ⟨p, n, c⟩ 3 1 encI l) (hl : l.length < 4611686018427387904) : TR Tryz.prog K 174 [.o (.slice p n c), .o (.int .i64 v)] mem
    fun u m => u = .s (.o (.int .i64 (idxI v l 0))) ∧ m = mem := by
  refine tr_intro Tryz.func174 rfl rfl rfl fun cx hro hk hret => ?_
  refine sx_seq ?_
  refine sx_region ?_
  refine sxo_pure rfl rfl rfl trivial ?_
  refine sxo_end ?_
  refine sx_seq ?_
  refine sx_seq ?_
  refine sx_region ?_
  refine sxo_pure rfl rfl rfl trivial ?_
  refine sxo_len rfl rfl rfl rfl rfl (by assumption) rfl rfl ?_
  refine sxo_pure rfl rfl rfl trivial ?_
  refine sxo_end ?_
  refine sx_block ?_
  refine sx_loopI (γ := Nat) (fun j => j ≤ l.length ∧ idxI v (l.drop j) j = idxI v l 0) (fun j => l.length - j) (fun j => [(0, .s (.o (.slice p n c))), (1, .s (.o (.int .i64 v))), (6, .s (.o (.slice p n c))), (7, .s (.o (.int .i64 l.length))), (8, .s (.o (.int .i64 j)))]) (fun _ => mem) 0 ⟨by omega, by simp⟩ ?_ |> sx_less (.cons rfl (.cons rfl (.cons rfl (.cons rfl (.cons rfl (.nil _)))))) .all
  rintro j ⟨hj, ho⟩ ih
  refine sx_seq ?_
  refine sx_region ?_
  refine sxo_pure rfl rfl rfl trivial ?_
  refine sxo_end ?_
  refine sx_seq ?_
  refine sx_cond rfl (fun h => ?_) (fun h => ?_)
  · simp at h
    refine sx_skip ?_
    refine sx_seq ?_
    refine sx_block ?_
    refine sx_seq ?_
    refine sx_region ?_
    refine sxo_pure rfl rfl rfl trivial ?_
    refine sxo_pure rfl rfl rfl trivial ?_
    refine sxo_end ?_
    refine sx_seq ?_
    refine sx_region ?_
    refine sxo_pure rfl rfl rfl trivial ?_
    refine sxo_pure rfl rfl rfl trivial ?_
    refine sxo_pure rfl rfl rfl trivial ?_
    refine sxo_indexAddr rfl rfl rfl rfl rfl rfl rfl hv (by omega) rfl (fun b off => ?_)
    skip
    refine sxo_loadEl0 rfl rfl rfl .head hv.skip rfl (by omega) (fun _ => rfl) rfl rfl (fun x hx => ?_)
    have hd : l.drop j = x :: l.drop (j + 1) := by
      simp at hx
      obtain ⟨h1, h2⟩ := List.getElem?_eq_some_iff.1 hx
      rw [List.drop_eq_getElem_cons h1, h2]
    rw [hd, idxI] at ho
    refine sxo_pure rfl rfl rfl trivial ?_
    refine sxo_end ?_
    refine sx_cond rfl (fun h2 => ?_) (fun h2 => ?_)
    · simp at h2
      refine sx_seq ?_
      refine sx_region ?_
      refine sxo_pure rfl rfl rfl trivial ?_
      refine sxo_pure rfl rfl rfl trivial ?_
      refine sxo_end ?_
      refine sx_less (M := mem) (.cons (t := 4) rfl (.nil _)) (.skip .all) ?_
      refine sx_ret hret hro hk (.tmp rfl .nil) ⟨?_, rfl⟩
      rw [if_pos h2] at ho
      rw [← ho]; rfl
    · simp at h2
      rw [if_neg h2] at ho
      refine sx_skip ?_
      refine sx_inBlock ?_
      refine sx_region ?_
      refine sxo_pure rfl rfl rfl (by omega) ?_
      refine sxo_pure rfl rfl rfl trivial ?_
      refine sxo_end ?_
      exact sx_less (.cons rfl (.cons rfl (.cons rfl (.cons rfl (.cons (by simp [look]; rfl) (.nil _)))))) (.skip .all) (ih (j + 1) ⟨by omega, ho⟩ (by omega))
  · simp at h
    refine sx_exit rfl ?_
    refine sx_seq ?_
    refine sx_region ?_
    refine sxo_pure rfl rfl rfl trivial ?_
    refine sxo_end ?_
    refine sx_ret hret hro hk (.tmp rfl .nil) ⟨?_, rfl⟩
    have : j = l.length := by omega
    subst this
    simp [idxI] at ho
    rw [← ho]; rfl
theorem Contains_ok (K : Hp) (mem : List Ent) (p : Option Addr) (n c : Nat) (l : List Int) (v : Int) (hv : ∀ Kc, Sub K Kc → Reads Kc mem ⟨p, n, c⟩ 3 1 encI l) (hl : l.length < 4611686018427387904) : TR Tryz.prog K 86 [.o (.slice p n c), .o (.int .i64 v)] mem
    fun u m => u = .s (.o (.bool (decide (v ∈ l)))) ∧ m = mem := by
  refine tr_intro Tryz.func86 rfl rfl rfl fun cx hro hk hret => ?_
  refine sx_seq ?_
  refine sx_region ?_
  refine sxo_pure rfl rfl rfl trivial ?_
  refine sxo_end ?_
  refine sx_seq ?_
  refine sx_region ?_
  refine sxo_pure rfl rfl rfl trivial ?_
  refine sxo_pure rfl rfl rfl trivial ?_
  refine sxo_call [.o (.slice p n c), .o (.int .i64 v)] rfl rfl rfl rfl rfl .all rfl rfl (fun Kc hK _ => Index_ok Kc mem p n c l v (hv Kc hK) hl) ?_
  rintro u m ⟨rfl, rfl⟩
  simp only [List.append_nil]
  refine sxo_pure rfl rfl rfl trivial ?_
  refine sxo_pure rfl rfl rfl trivial ?_
  refine sxo_end ?_
  refine sx_ret hret hro hk (.tmp rfl .nil) ⟨?_, rfl⟩
  simp [resV, idxI_ge]
end Go.SX

namespace Go.SX
open Go.Proofs
attribute [local irreducible] SX SXo
def w64 (n : Int) : Int := IntKind.u64.wrap n
def x64 (a b : Int) : Int := IntKind.u64.wrap (BitVec.ofInt IntKind.u64.bits a ^^^ BitVec.ofInt IntKind.u64.bits b).toNat
def sh64 (a k : Int) : Int := a.fdiv (2 ^ min k.toNat IntKind.u64.bits)
def drawStep (s : Int) : Int := w64 (s + 11400714819323198485)
def drawMix (z : Int) : Int :=
  let a := w64 (x64 z (sh64 z 30) * 13787848793156543929)
  let b := w64 (x64 a (sh64 a 27) * 10723151780598845931)
  x64 b (sh64 b 31)
theorem w64_in (n : Int) : 0 ≤ w64 n ∧ w64 n < 18446744073709551616 := by
  show 0 ≤ IntKind.u64.wrap n ∧ IntKind.u64.wrap n < 18446744073709551616
  have : IntKind.u64.wrap n = n % 18446744073709551616 := by simp [IntKind.wrap, IntKind.signed, IntKind.bits]
  rw [this]; omega
@[reducible] def srcE (b : Nat) (s : Int) : Ent := .blk b 275 [.c (.int .u64 s)]
theorem drawNew_ok (K : Hp) (s : Int) : TR Tryz.prog K 81 [.o (.int .u64 s)] [] fun v m => ∃ b, v = .s (.o (.pointer (some ⟨b, 0, none⟩))) ∧ m = [srcE b s] := by
  refine tr_intro Tryz.func81 rfl rfl rfl fun cx hro hk hret => ?_
  refine sx_seq ?_
  refine sx_region ?_
  refine sxo_pure rfl rfl rfl trivial ?_
  refine sxo_end ?_
  refine sx_seq ?_
  refine sx_region ?_
  refine sxo_pure rfl rfl rfl trivial ?_
  refine sxo_build rfl rfl rfl rfl rfl rfl rfl rfl rfl ?_
  refine sxo_box rfl rfl rfl rfl rfl rfl (fun _ => ?_)
  refine sxo_pure rfl rfl rfl trivial ?_
  refine sxo_end ?_
  refine sx_ret hret hro hk (.tmp rfl .nil) ⟨_, rfl, rfl⟩
theorem drawNext_ok (K : Hp) (b : Nat) (s : Int) : TR Tryz.prog K 171 [.o (.pointer (some ⟨b, 0, none⟩))] [srcE b s]
    fun v m => v = .s (.o (.int .u64 (drawMix (drawStep s)))) ∧ m = [srcE b (drawStep s)] := by
  refine tr_intro Tryz.func171 rfl rfl rfl fun cx hro hk hret => ?_
  refine sx_seq ?_
  refine sx_region ?_
  refine sxo_pure rfl rfl rfl trivial ?_
  refine sxo_end ?_
  refine sx_seq ?_
  refine sx_region ?_
  refine sxo_pure rfl rfl rfl trivial ?_
  refine sxo_pure rfl rfl rfl trivial ?_
  refine sxo_pure rfl rfl rfl trivial ?_
  refine sxo_load rfl rfl rfl (by exact .head) rfl rfl rfl rfl ?_
  refine sxo_pure rfl rfl rfl trivial ?_
  refine sxo_pure rfl rfl rfl trivial ?_
  refine sxo_pure rfl rfl rfl trivial ?_
  refine sxo_store rfl rfl rfl rfl (by exact .head) rfl rfl rfl rfl rfl ?_
  refine sxo_end ?_
  refine sx_seq ?_
  refine sx_region ?_
  refine sxo_pure rfl rfl rfl trivial ?_
  refine sxo_pure rfl rfl rfl trivial ?_
  refine sxo_pure rfl rfl rfl trivial ?_
  refine sxo_load rfl rfl rfl (by exact .head) rfl rfl rfl rfl ?_
  refine sxo_pure rfl rfl rfl trivial ?_
  refine sxo_end ?_
  refine sx_seq ?_
  refine sx_region ?_
  refine sxo_pure rfl rfl rfl trivial ?_
  refine sxo_pure rfl rfl rfl trivial ?_
  refine sxo_pure rfl rfl rfl (by omega) ?_
  refine sxo_pure rfl rfl rfl trivial ?_
  refine sxo_pure rfl rfl rfl trivial ?_
  refine sxo_pure rfl rfl rfl trivial ?_
  refine sxo_end ?_
  refine sx_seq ?_
  refine sx_region ?_
  refine sxo_pure rfl rfl rfl trivial ?_
  refine sxo_pure rfl rfl rfl trivial ?_
  refine sxo_pure rfl rfl rfl (by omega) ?_
  refine sxo_pure rfl rfl rfl trivial ?_
  refine sxo_pure rfl rfl rfl trivial ?_
  refine sxo_pure rfl rfl rfl trivial ?_
  refine sxo_end ?_
  refine sx_seq ?_
  refine sx_region ?_
  refine sxo_pure rfl rfl rfl trivial ?_
  refine sxo_pure rfl rfl rfl trivial ?_
  refine sxo_pure rfl rfl rfl (by omega) ?_
  refine sxo_pure rfl rfl rfl trivial ?_
  refine sxo_pure rfl rfl rfl trivial ?_
  refine sxo_end ?_
  refine sx_ret hret hro hk (.tmp rfl .nil) ⟨rfl, rfl⟩
theorem drawMix_in (z : Int) : 0 ≤ drawMix z ∧ drawMix z < 18446744073709551616 := by
  unfold drawMix x64; exact w64_in _
theorem Mul64_ok (K : Hp) (mem : List Ent) (x y : Int) (hx : 0 ≤ x ∧ x < 18446744073709551616) (hy : 0 ≤ y ∧ y < 18446744073709551616) : TR Tryz.prog K 170 [.o (.int .u64 x), .o (.int .u64 y)] mem
    fun v m => v = .t [.o (.int .u64 (x * y / 18446744073709551616)), .o (.int .u64 (x * y % 18446744073709551616))] ∧ m = mem := by
  obtain ⟨a, rfl⟩ := Int.eq_ofNat_of_zero_le hx.1
  obtain ⟨b, rfl⟩ := Int.eq_ofNat_of_zero_le hy.1
  refine tr_of_still ⟨_, Tryz.func170, rfl, rfl⟩ fun w => ?_
  refine (Tryz.bits_Mul64 a b (by omega) (by omega) w).mono ?_
  rintro e w' ⟨rfl, rfl⟩
  refine ⟨?_, rfl⟩
  show Ending.returned (.tuple #[_, _]) = Ending.returned (.tuple #[_, _])
  simp
/-- A number below another one. -/
def drawBelow (s n : Int) : Int := drawMix (drawStep s) * n / 18446744073709551616
theorem drawBelow_in (s : Int) {n : Int} (h : 0 < n) : 0 ≤ drawBelow s n ∧ drawBelow s n < n := by
  have h1 := drawMix_in (drawStep s)
  unfold drawBelow
  refine ⟨Int.ediv_nonneg (Int.mul_nonneg h1.1 (by omega)) (by decide), ?_⟩
  refine Int.ediv_lt_of_lt_mul (by decide) ?_
  rw [Int.mul_comm n]
  exact Int.mul_lt_mul_of_pos_right h1.2 h
theorem drawBelow_ok (K : Hp) (b : Nat) (s n : Int) (hn : 0 ≤ n ∧ n < 18446744073709551616) : TR Tryz.prog K 82 [.o (.pointer (some ⟨b, 0, none⟩)), .o (.int .u64 n)] [srcE b s]
    fun v m => v = .s (.o (.int .u64 (drawBelow s n))) ∧ m = [srcE b (drawStep s)] := by
  refine tr_intro Tryz.func82 rfl rfl rfl fun cx hro hk hret => ?_
  refine sx_seq ?_
  refine sx_region ?_
  refine sxo_pure rfl rfl rfl trivial ?_
  refine sxo_end ?_
  refine sx_seq ?_
  refine sx_region ?_
  refine sxo_pure rfl rfl rfl trivial ?_
  refine sxo_call [.o (.pointer (some ⟨b, 0, none⟩))] rfl rfl rfl rfl rfl .all rfl rfl (fun Kc _ _ => drawNext_ok Kc b s) ?_
  rintro v m ⟨rfl, rfl⟩
  simp only [List.append_nil]
  refine sxo_pure rfl rfl rfl trivial ?_
  refine sxo_call [.o (.int .u64 (drawMix (drawStep s))), .o (.int .u64 n)] rfl rfl rfl rfl rfl .nil rfl rfl (fun Kc _ _ => Mul64_ok Kc [] _ _ (drawMix_in _) hn) ?_
  rintro v m ⟨rfl, rfl⟩
  simp only [List.nil_append]
  refine sxo_pure rfl rfl rfl trivial ?_
  refine sxo_pure rfl rfl rfl trivial ?_
  refine sxo_pure rfl rfl rfl trivial ?_
  refine sxo_pure rfl rfl rfl trivial ?_
  refine sxo_pure rfl rfl rfl trivial ?_
  refine sxo_end ?_
  refine sx_seq ?_
  refine sx_region ?_
  refine sxo_pure rfl rfl rfl trivial ?_
  refine sxo_pure rfl rfl rfl trivial ?_
  refine sxo_end ?_
  refine sx_ret hret hro hk (.tmp rfl .nil) ⟨rfl, rfl⟩
theorem CloneInt_ok (K : Hp) (mem : List Ent) (p : Option Addr) (n c : Nat) (l : List Int) (hv : Reads K mem ⟨p, n, c⟩ 3 1 encI l) (hl : l.length * 8 ≤ 140737488355328) : TR Tryz.prog K 281 [.o (.slice p n c)] mem
    fun v m => ∃ p' n' c', v = .s (.o (.slice p' n' c')) ∧ m = .vec ⟨p', n', c'⟩ 3 1 encI l :: mem := by
  refine tr_intro Tryz.func281 rfl rfl rfl fun cx hro hk hret => ?_
  refine sx_seq ?_
  refine sx_region ?_
  refine sxo_pure rfl rfl rfl trivial ?_
  refine sxo_end ?_
  refine sx_seq ?_
  refine sx_seq ?_
  refine sx_region ?_
  refine sxo_pure rfl rfl rfl trivial ?_
  refine sxo_eqSl rfl rfl rfl rfl rfl rfl rfl ?_
  refine sxo_end ?_
  refine sx_cond rfl (fun h => ?_) (fun h => ?_)
  · refine sx_fact (Q := l = []) (fun w hm => ?_) fun hl0 => ?_
    · rcases hv w hm with ⟨_, h4⟩ | ⟨_, _, hvv⟩
      · exact h4
      rcases hvv with ⟨_, _, _, h4⟩ | ⟨_, _, _, h1, _⟩
      · exact h4
      · have h1' : p = _ := h1
        rw [h1'] at h; cases h
    subst hl0
    have hp : p = none := by simpa using h
    refine sx_nilVec encI 3 1 ?_
    refine sx_seq ?_
    refine sx_region ?_
    refine sxo_pure rfl rfl rfl trivial ?_
    refine sxo_end ?_
    refine sx_ret hret hro hk (.tmp rfl .nil) ⟨_, _, _, rfl, rfl⟩
  · refine sx_skip ?_
    refine sx_seq ?_
    refine sx_region ?_
    refine sxo_buildSlice0 rfl rfl rfl rfl rfl rfl rfl (fun b => ?_)
    refine sxo_pure rfl rfl rfl trivial ?_
    refine sxo_recast (.vec ⟨some ⟨b, 0, none⟩, 0, 0⟩ 3 1 encI []) .head (fun _ hb => blk_vec hb rfl rfl (fun _ h => by cases h)) ?_
    refine sxo_append rfl rfl rfl rfl rfl rfl rfl rfl rfl rfl .head hv (fun _ => rfl) rfl rfl rfl (by simpa using hl) (fun p2 n2 c2 => ?_)
    simp only [List.nil_append]
    refine sxo_pure rfl rfl rfl trivial ?_
    refine sxo_end ?_
    refine sx_ret hret hro hk (.tmp rfl .nil) ⟨_, _, _, rfl, rfl⟩
end Go.SX

namespace Go.SX
open Go.Proofs
attribute [local irreducible] SX SXo
theorem wrap_u64 {n : Int} (h : 0 ≤ n ∧ n < 18446744073709551616) : IntKind.u64.wrap n = n := by
  have : IntKind.u64.wrap n = n % 18446744073709551616 := by simp [IntKind.wrap, IntKind.signed, IntKind.bits]
  rw [this]; omega
theorem wrap_i64' {n : Int} (h : -9223372036854775808 ≤ n ∧ n ≤ 9223372036854775807) : IntKind.i64.wrap n = n := wrap_i64 h
/-- What is kept of a shuffle: it is one; the source has gone on. -/
theorem Shuffle_ok (K : Hp) (b : Nat) (s : Int) (p : Option Addr) (n c : Nat) (l : List Int) (hv : ∀ Kc, Sub K Kc → Reads Kc [] ⟨p, n, c⟩ 3 1 encI l) (hl : l.length ≤ 1000000) : TR Tryz.prog K 172 [.o (.pointer (some ⟨b, 0, none⟩)), .o (.slice p n c)] [srcE b s]
    fun v m => ∃ p' n' c' l' s', l'.Perm l ∧ v = .s (.o (.slice p' n' c')) ∧ m = [.vec ⟨p', n', c'⟩ 3 1 encI l', srcE b s'] := by
  refine tr_intro Tryz.func172 rfl rfl rfl fun cx hro hk hret => ?_
  refine sx_seq ?_
  refine sx_region ?_
  refine sxo_pure rfl rfl rfl trivial ?_
  refine sxo_end ?_
  refine sx_seq ?_
  refine sx_region ?_
  refine sxo_pure rfl rfl rfl trivial ?_
  refine sxo_call [.o (.slice p n c)] rfl rfl rfl rfl rfl .nil rfl rfl (fun Kc hK _ => CloneInt_ok Kc [] p n c l (hv Kc hK) (by omega)) ?_
  rintro v m ⟨p1, n1, c1, rfl, rfl⟩
  simp only [List.cons_append, List.nil_append]
  refine sxo_pure rfl rfl rfl trivial ?_
  refine sxo_end ?_
  refine sx_seq ?_
  refine sx_seq ?_
  refine sx_region ?_
  refine sxo_pure rfl rfl rfl trivial ?_
  refine sxo_len rfl rfl rfl rfl rfl (by exact Reads.own (by exact .head)) rfl rfl ?_
  refine sxo_pure rfl rfl rfl (by omega) ?_
  refine sxo_pure rfl rfl rfl trivial ?_
  refine sxo_end ?_
  refine sx_block ?_
  refine sx_loopI (γ := List Int × Int × Int) (fun x => x.1.Perm l ∧ -1 ≤ x.2.2 ∧ x.2.2 < l.length) (fun x => x.2.2.toNat) (fun x => [(0, .s (.o (.pointer (some ⟨b, 0, none⟩)))), (5, .s (.o (.slice p1 n1 c1))), (6, .s (.o (.int .i64 x.2.2)))])
    (fun x => [.vec ⟨p1, n1, c1⟩ 3 1 encI x.1, srcE b x.2.1]) (l, s, (l.length : Int) - 1) ⟨.refl _, by simp only; omega, by simp only; omega⟩ ?_ |> sx_less (.cons rfl (.cons rfl (.cons rfl (.nil _)))) .all
  rintro ⟨l1, s1, i⟩ ⟨hp, hi1, hi2⟩ ih
  have hll : l1.length = l.length := hp.length_eq
  simp only at hi1 hi2
  refine sx_seq ?_
  refine sx_seq ?_
  refine sx_region ?_
  refine sxo_pure rfl rfl rfl trivial ?_
  refine sxo_pure rfl rfl rfl trivial ?_
  refine sxo_end ?_
  refine sx_cond rfl (fun h => ?_) (fun h => ?_)
  · simp at h
    have e1 : IntKind.u64.wrap i = i := wrap_u64 (by omega)
    have e2 : IntKind.u64.wrap (i + 1) = i + 1 := wrap_u64 (by omega)
    refine sx_skip ?_
    refine sx_seq ?_
    refine sx_block ?_
    refine sx_seq ?_
    refine sx_region ?_
    refine sxo_pure rfl rfl rfl trivial ?_
    refine sxo_pure rfl rfl rfl trivial ?_
    refine sxo_conv rfl rfl rfl rfl rfl rfl rfl rfl ?_
    refine sxo_pure rfl rfl rfl trivial ?_
    refine sxo_call [.o (.pointer (some ⟨b, 0, none⟩)), .o (.int .u64 (i + 1))] rfl rfl rfl rfl (by simp [SV1.val, e1, e2]) (.cons (.tail .head) .nil) rfl rfl (fun Kc _ _ => drawBelow_ok Kc b s1 (i + 1) (by omega)) ?_
    rintro v m ⟨rfl, rfl⟩
    simp only [List.cons_append, List.nil_append]
    have hb := drawBelow_in s1 (n := i + 1) (by omega)
    refine sxo_conv rfl rfl rfl rfl rfl rfl rfl rfl ?_
    refine sxo_pure rfl rfl rfl trivial ?_
    refine sxo_end ?_
    have e3 : IntKind.i64.wrap (drawBelow s1 (i + 1)) = drawBelow s1 (i + 1) := wrap_i64 (by omega)
    rw [e3]
    generalize drawBelow s1 (i + 1) = q at hb
    refine sx_less (env' := [(0, .s (.o (.pointer (some ⟨b, 0, none⟩)))), (5, .s (.o (.slice p1 n1 c1))), (6, .s (.o (.int .i64 i))), (7, .s (.o (.int .i64 q)))]) (.cons rfl (.cons rfl (.cons rfl (.cons rfl (.nil _))))) .all ?_
    refine sx_draw (by kernel_rfl) [0, 1, 2, 3, 4, 5, 6, 7, 8, 9, 10, 11, 12, 13, 14, 15] [] (by kernel_rfl) ?_
    refine sxo_pure rfl rfl rfl trivial ?_
    refine sxo_pure rfl rfl rfl trivial ?_
    refine sxo_pure rfl rfl rfl trivial ?_
    refine sxo_pure rfl rfl rfl trivial ?_
    refine sxo_pure rfl rfl rfl trivial ?_
    refine sxo_pure rfl rfl rfl trivial ?_
    refine sxo_indexAddr rfl rfl rfl rfl rfl rfl rfl (Reads.own (by exact .tail .head)) (by omega) rfl (fun b1 o1 => ?_)
    refine sxo_loadEl0 rfl rfl rfl (by exact .head) (Reads.own (by exact .tail (.tail .head))) rfl (by omega) (fun _ => rfl) rfl rfl (fun x1 hx1 => ?_)
    refine sxo_pure rfl rfl rfl trivial ?_
    refine sxo_pure rfl rfl rfl trivial ?_
    refine sxo_indexAddr rfl rfl rfl rfl rfl rfl rfl (Reads.own (by exact .tail (.tail .head))) (by omega) rfl (fun b2 o2 => ?_)
    refine sxo_loadEl0 rfl rfl rfl (by exact .head) (Reads.own (by exact .tail (.tail (.tail .head)))) rfl (by omega) (fun _ => rfl) rfl rfl (fun x2 hx2 => ?_)
    refine sxo_indexAddr rfl rfl rfl rfl rfl rfl rfl (Reads.own (by exact .tail (.tail (.tail .head)))) (by omega) rfl (fun b3 o3 => ?_)
    refine sxo_storeEl (fo := 0) (fun _ => x1) rfl rfl rfl rfl (by exact .head) (by exact .tail (.tail (.tail (.tail .head)))) rfl (by omega) (fun _ => rfl) rfl rfl rfl (fun x3 hx3 => ?_)
    refine sxo_indexAddr rfl rfl rfl rfl rfl rfl rfl (Reads.own (by exact .head)) (by simp; omega) rfl (fun b4 o4 => ?_)
    refine sxo_storeEl (fo := 0) (fun _ => x2) rfl rfl rfl rfl (by exact .head) (by exact .tail .head) rfl (by simp; omega) (fun _ => rfl) rfl rfl rfl (fun x4 hx4 => ?_)
    refine sxo_end ?_
    refine sx_inBlock ?_
    refine sx_region ?_
    refine sxo_pure rfl rfl rfl trivial ?_
    refine sxo_pure rfl rfl rfl (by omega) ?_
    refine sxo_pure rfl rfl rfl trivial ?_
    refine sxo_end ?_
    have hsw : ((l1.set i.toNat x1).set q.toNat x2).Perm l1 := by
      obtain ⟨g1, rfl⟩ := List.getElem?_eq_some_iff.1 hx1
      obtain ⟨g2, rfl⟩ := List.getElem?_eq_some_iff.1 hx2
      exact List.set_set_perm g2 g1
    refine sx_less (.cons rfl (.cons rfl (.cons rfl (.nil _)))) (by (apply Take.cons; focus exact .head); (apply Take.cons; focus exact .tail (.tail (.tail (.tail .head)))); exact .nil) (ih ((l1.set i.toNat x1).set q.toNat x2, drawStep s1, i - 1) ⟨hsw.trans hp, by simp only; omega, by simp only; omega⟩ (by simp only; omega))
  · simp at h
    refine sx_exit rfl ?_
    refine sx_seq ?_
    refine sx_region ?_
    refine sxo_pure rfl rfl rfl trivial ?_
    refine sxo_pure rfl rfl rfl trivial ?_
    refine sxo_end ?_
    refine sx_ret hret hro hk (.tmp rfl .nil) ⟨_, _, _, _, _, hp, rfl, rfl⟩
theorem Sample_ok (K : Hp) (b : Nat) (s : Int) (p : Option Addr) (n c : Nat) (l : List Int) (kk : Int) (hv : ∀ Kc, Sub K Kc → Reads Kc [] ⟨p, n, c⟩ 3 1 encI l) (hl : l.length ≤ 1000000) :
    TR Tryz.prog K 83 [.o (.pointer (some ⟨b, 0, none⟩)), .o (.slice p n c), .o (.int .i64 kk)] [srcE b s]
    fun v m => ∃ p' n' c' s', ∃ l' : List Int, l'.Perm l ∧ v = .s (.o (.slice p' n' c')) ∧ m = [.vec ⟨p', n', c'⟩ 3 1 encI (l'.take (max 0 (min kk l.length)).toNat), srcE b s'] := by
  refine tr_intro Tryz.func83 rfl rfl rfl fun cx hro hk hret => ?_
  refine sx_seq ?_
  refine sx_region ?_
  refine sxo_pure rfl rfl rfl trivial ?_
  refine sxo_end ?_
  refine sx_seq ?_
  refine sx_region ?_
  refine sxo_pure rfl rfl rfl trivial ?_
  refine sxo_pure rfl rfl rfl trivial ?_
  refine sxo_call [.o (.pointer (some ⟨b, 0, none⟩)), .o (.slice p n c)] rfl rfl rfl rfl rfl .all rfl rfl (fun Kc hK _ => Shuffle_ok Kc b s p n c l (fun Kd hd => hv Kd (hK.trans hd)) hl) ?_
  rintro v m ⟨p1, n1, c1, l1, s1, hp, rfl, rfl⟩
  simp only [List.append_nil]
  have hll : l1.length = l.length := hp.length_eq
  refine sxo_pure rfl rfl rfl trivial ?_
  refine sxo_end ?_
  refine sx_seq ?_
  refine sx_region ?_
  refine sxo_pure rfl rfl rfl trivial ?_
  refine sxo_pure rfl rfl rfl trivial ?_
  refine sxo_pure rfl rfl rfl trivial ?_
  refine sxo_len rfl rfl rfl rfl rfl (by exact Reads.own (by exact .head)) rfl rfl ?_
  refine sxo_min rfl rfl rfl rfl rfl ?_
  refine sxo_max rfl rfl rfl rfl rfl ?_
  refine sxo_slice rfl rfl rfl rfl rfl rfl rfl rfl rfl (Reads.own (by exact .head)) (by simp [loOf, hiOf]; omega) (fun p2 c2 hs => ?_)
  refine sxo_recast (.vec ⟨p2, _, c2⟩ 3 1 encI _) .head (fun _ hb => hs.2 hb (by simp [hiOf]; omega)) ?_
  refine sxo_pure rfl rfl rfl trivial ?_
  refine sxo_end ?_
  refine sx_ret hret hro hk (.tmp rfl .nil) ⟨_, _, _, s1, l1, hp, rfl, ?_⟩
  simp [loOf, hiOf, hll]
end Go.SX

namespace Go.SX
open Go.Proofs
attribute [local irreducible] SX SXo
theorem withinM_ok (K : Hp) (mem : List Ent) (n a b : Int) : TR Tryz.prog K 64 [.o (.int .i64 n), .o (.int .i64 a), .o (.int .i64 b)] mem fun v m => v = .s (.o (.bool (decide (a ≤ n ∧ n ≤ b)))) ∧ m = mem := by
  refine tr_intro Tryz.func64 rfl rfl rfl fun cx hro hk hret => ?_
  refine sx_seq ?_
  refine sx_region ?_
  refine sxo_pure rfl rfl rfl trivial ?_
  refine sxo_end ?_
  refine sx_seq ?_
  refine sx_region ?_
  refine sxo_pure rfl rfl rfl trivial ?_
  refine sxo_pure rfl rfl rfl trivial ?_
  refine sxo_pure rfl rfl rfl trivial ?_
  refine sxo_pure rfl rfl rfl trivial ?_
  refine sxo_split (t := 10) rfl (fun h => ?_) (fun h => ?_)
  · refine sxo_pure rfl rfl rfl trivial ?_
    refine sxo_pure rfl rfl rfl trivial ?_
    refine sxo_pure rfl rfl rfl trivial ?_
    refine sxo_pure rfl rfl rfl trivial ?_
    refine sxo_pure rfl rfl rfl trivial ?_
    refine sxo_end ?_
    refine sx_ret hret hro hk (.tmp rfl .nil) ⟨?_, rfl⟩
    simp at h; simp [resV, h]
  · refine sxo_pass rfl rfl rfl ?_
    refine sxo_pass rfl rfl rfl ?_
    refine sxo_pass rfl rfl rfl ?_
    refine sxo_pure rfl rfl rfl trivial ?_
    refine sxo_pure rfl rfl rfl trivial ?_
    refine sxo_end ?_
    refine sx_ret hret hro hk (.tmp rfl .nil) ⟨?_, rfl⟩
    simp at h; simp [resV]; omega
theorem withinS_ok (K : Hp) (mem : List Ent) (n a b : Int) : TR Tryz.prog K 65 [.o (.int .i64 n), .o (.int .i64 a), .o (.int .i64 b)] mem fun v m => v = .s (.o (.bool (decide (a ≤ n ∧ n ≤ b)))) ∧ m = mem := by
  refine tr_intro Tryz.func65 rfl rfl rfl fun cx hro hk hret => ?_
  refine sx_seq ?_
  refine sx_region ?_
  refine sxo_pure rfl rfl rfl trivial ?_
  refine sxo_end ?_
  refine sx_seq ?_
  refine sx_region ?_
  refine sxo_pure rfl rfl rfl trivial ?_
  refine sxo_pure rfl rfl rfl trivial ?_
  refine sxo_pure rfl rfl rfl trivial ?_
  refine sxo_pure rfl rfl rfl trivial ?_
  refine sxo_split (t := 10) rfl (fun h => ?_) (fun h => ?_)
  · refine sxo_pure rfl rfl rfl trivial ?_
    refine sxo_pure rfl rfl rfl trivial ?_
    refine sxo_pure rfl rfl rfl trivial ?_
    refine sxo_pure rfl rfl rfl trivial ?_
    refine sxo_pure rfl rfl rfl trivial ?_
    refine sxo_end ?_
    refine sx_ret hret hro hk (.tmp rfl .nil) ⟨?_, rfl⟩
    simp at h; simp [resV, h]
  · refine sxo_pass rfl rfl rfl ?_
    refine sxo_pass rfl rfl rfl ?_
    refine sxo_pass rfl rfl rfl ?_
    refine sxo_pure rfl rfl rfl trivial ?_
    refine sxo_pure rfl rfl rfl trivial ?_
    refine sxo_end ?_
    refine sx_ret hret hro hk (.tmp rfl .nil) ⟨?_, rfl⟩
    simp at h; simp [resV]; omega
theorem withinN_ok (K : Hp) (mem : List Ent) (n a b : Int) : TR Tryz.prog K 16 [.o (.int .i64 n), .o (.int .i64 a), .o (.int .i64 b)] mem fun v m => v = .s (.o (.bool (decide (a ≤ n ∧ n ≤ b)))) ∧ m = mem := by
  refine tr_intro Tryz.func16 rfl rfl rfl fun cx hro hk hret => ?_
  refine sx_seq ?_
  refine sx_region ?_
  refine sxo_pure rfl rfl rfl trivial ?_
  refine sxo_end ?_
  refine sx_seq ?_
  refine sx_region ?_
  refine sxo_pure rfl rfl rfl trivial ?_
  refine sxo_pure rfl rfl rfl trivial ?_
  refine sxo_pure rfl rfl rfl trivial ?_
  refine sxo_pure rfl rfl rfl trivial ?_
  refine sxo_split (t := 10) rfl (fun h => ?_) (fun h => ?_)
  · refine sxo_pure rfl rfl rfl trivial ?_
    refine sxo_pure rfl rfl rfl trivial ?_
    refine sxo_pure rfl rfl rfl trivial ?_
    refine sxo_pure rfl rfl rfl trivial ?_
    refine sxo_pure rfl rfl rfl trivial ?_
    refine sxo_end ?_
    refine sx_ret hret hro hk (.tmp rfl .nil) ⟨?_, rfl⟩
    simp at h; simp [resV, h]
  · refine sxo_pass rfl rfl rfl ?_
    refine sxo_pass rfl rfl rfl ?_
    refine sxo_pass rfl rfl rfl ?_
    refine sxo_pure rfl rfl rfl trivial ?_
    refine sxo_pure rfl rfl rfl trivial ?_
    refine sxo_end ?_
    refine sx_ret hret hro hk (.tmp rfl .nil) ⟨?_, rfl⟩
    simp at h; simp [resV]; omega
theorem withinW_ok (K : Hp) (mem : List Ent) (n a b : Int) : TR Tryz.prog K 176 [.o (.int .i64 n), .o (.int .i64 a), .o (.int .i64 b)] mem fun v m => v = .s (.o (.bool (decide (a ≤ n ∧ n ≤ b)))) ∧ m = mem := by
  refine tr_intro Tryz.func176 rfl rfl rfl fun cx hro hk hret => ?_
  refine sx_seq ?_
  refine sx_region ?_
  refine sxo_pure rfl rfl rfl trivial ?_
  refine sxo_end ?_
  refine sx_seq ?_
  refine sx_region ?_
  refine sxo_pure rfl rfl rfl trivial ?_
  refine sxo_pure rfl rfl rfl trivial ?_
  refine sxo_pure rfl rfl rfl trivial ?_
  refine sxo_pure rfl rfl rfl trivial ?_
  refine sxo_split (t := 10) rfl (fun h => ?_) (fun h => ?_)
  · refine sxo_pure rfl rfl rfl trivial ?_
    refine sxo_pure rfl rfl rfl trivial ?_
    refine sxo_pure rfl rfl rfl trivial ?_
    refine sxo_pure rfl rfl rfl trivial ?_
    refine sxo_pure rfl rfl rfl trivial ?_
    refine sxo_end ?_
    refine sx_ret hret hro hk (.tmp rfl .nil) ⟨?_, rfl⟩
    simp at h; simp [resV, h]
  · refine sxo_pass rfl rfl rfl ?_
    refine sxo_pass rfl rfl rfl ?_
    refine sxo_pass rfl rfl rfl ?_
    refine sxo_pure rfl rfl rfl trivial ?_
    refine sxo_pure rfl rfl rfl trivial ?_
    refine sxo_end ?_
    refine sx_ret hret hro hk (.tmp rfl .nil) ⟨?_, rfl⟩
    simp at h; simp [resV]; omega
theorem withinF_ok (K : Hp) (mem : List Ent) (n a b : Int) : TR Tryz.prog K 246 [.o (.int .i64 n), .o (.int .i64 a), .o (.int .i64 b)] mem fun v m => v = .s (.o (.bool (decide (a ≤ n ∧ n ≤ b)))) ∧ m = mem := by
  refine tr_intro Tryz.func246 rfl rfl rfl fun cx hro hk hret => ?_
  refine sx_seq ?_
  refine sx_region ?_
  refine sxo_pure rfl rfl rfl trivial ?_
  refine sxo_end ?_
  refine sx_seq ?_
  refine sx_region ?_
  refine sxo_pure rfl rfl rfl trivial ?_
  refine sxo_pure rfl rfl rfl trivial ?_
  refine sxo_pure rfl rfl rfl trivial ?_
  refine sxo_pure rfl rfl rfl trivial ?_
  refine sxo_split (t := 10) rfl (fun h => ?_) (fun h => ?_)
  · refine sxo_pure rfl rfl rfl trivial ?_
    refine sxo_pure rfl rfl rfl trivial ?_
    refine sxo_pure rfl rfl rfl trivial ?_
    refine sxo_pure rfl rfl rfl trivial ?_
    refine sxo_pure rfl rfl rfl trivial ?_
    refine sxo_end ?_
    refine sx_ret hret hro hk (.tmp rfl .nil) ⟨?_, rfl⟩
    simp at h; simp [resV, h]
  · refine sxo_pass rfl rfl rfl ?_
    refine sxo_pass rfl rfl rfl ?_
    refine sxo_pass rfl rfl rfl ?_
    refine sxo_pure rfl rfl rfl trivial ?_
    refine sxo_pure rfl rfl rfl trivial ?_
    refine sxo_end ?_
    refine sx_ret hret hro hk (.tmp rfl .nil) ⟨?_, rfl⟩
    simp at h; simp [resV]; omega
/-- Is a word newer than another one? -/
def newerB (m o : Member) : Bool := decide (0 < orI [cmpI m.inc o.inc, cmpI m.state o.state])
theorem newer_ok (K : Hp) (m o : Member) : TR Tryz.prog K 194 [evM m, evM o] [] fun v r => v = .s (.o (.bool (newerB m o))) ∧ r = [] := by
  refine tr_intro Tryz.func194 rfl rfl rfl fun cx hro hk hret => ?_
  refine sx_seq ?_
  refine sx_region ?_
  refine sxo_box rfl rfl rfl rfl rfl rfl (fun _ => ?_)
  refine sxo_box rfl rfl rfl rfl rfl rfl (fun _ => ?_)
  refine sxo_pure rfl rfl rfl trivial ?_
  refine sxo_end ?_
  refine sx_seq ?_
  refine sx_draw (by kernel_rfl) [0, 1, 2, 3, 5, 6, 7, 8, 4, 9, 10, 11, 12, 13] [(6, 4), (8, 4)] (by kernel_rfl) ?_
  refine sxo_pure rfl rfl rfl trivial ?_
  refine sxo_load rfl rfl rfl (by exact .tail .head) rfl rfl rfl rfl ?_
  refine sxo_pure rfl rfl rfl trivial ?_
  refine sxo_load rfl rfl rfl (by exact .head) rfl rfl rfl rfl ?_
  refine sxo_pure rfl rfl rfl trivial ?_
  refine sxo_loadF rfl rfl rfl (by exact .tail .head) rfl rfl rfl ?_
  refine sxo_pure rfl rfl rfl trivial ?_
  refine sxo_loadF rfl rfl rfl (by exact .head) rfl rfl rfl ?_
  refine sxo_call0 rfl rfl rfl rfl (by exact .nil) (fun Kc hK hB => Compare_ok Kc [] _ _) rfl rfl ?_ (hH := by rintro v m ⟨rfl, rfl⟩; (refine hh_chk ⟨_, _, _, (by exact .head), (by rfl)⟩ ?_; refine hh_chk ⟨_, _, _, (by exact .tail .head), (by rfl)⟩ ?_; exact hh_nil))
  rintro v m ⟨rfl, rfl⟩
  simp only [List.cons_append, List.nil_append, List.append_nil, resV]
  skip
  refine sxo_call0 rfl rfl rfl rfl (by exact .nil) (fun Kc hK hB => Compare_ok Kc [] _ _) rfl rfl ?_ (hH := by rintro v m ⟨rfl, rfl⟩; (refine hh_free rfl ?_; refine hh_free rfl ?_; exact hh_nil))
  rintro v m ⟨rfl, rfl⟩
  simp only [List.cons_append, List.nil_append, List.append_nil, resV]
  refine sxo_buildSlice rfl rfl rfl rfl rfl rfl rfl rfl rfl rfl rfl rfl rfl (fun _ => ?_)
  refine sxo_call0 rfl rfl rfl rfl .all (fun Kc hK hB => Or_ok Kc _ _ _ _ [cmpI m.inc o.inc, cmpI m.state o.state] (Reads.blk (by exact .head) rfl rfl (fun _ _ => rfl)) (by simp)) rfl rfl ?_ (hH := by rintro v m ⟨rfl, rfl⟩; (refine hh_free rfl ?_; refine hh_free rfl ?_; exact hh_nil))
  rintro v m ⟨rfl, rfl⟩
  simp only [List.cons_append, List.nil_append, List.append_nil, resV]
  refine sxo_pure rfl rfl rfl trivial ?_
  refine sxo_pure rfl rfl rfl trivial ?_
  refine sxo_end ?_
  refine sx_retL hret hro hk (.tmp rfl .nil) ⟨rfl, rfl⟩ (by exact .nil)
end Go.SX

namespace Go.SX
open Go.Proofs
attribute [local irreducible] SX SXo
theorem first1_ok (K : Hp) (a b : Member) : TR Tryz.prog K 299 [evM a, evM b] [] fun v r => (∃ n, v = .s (.o (.int .i64 n))) ∧ r = [] := by
  refine tr_intro Tryz.func299 rfl rfl rfl fun cx hro hk hret => ?_
  refine sx_seq ?_
  refine sx_region ?_
  refine sxo_box rfl rfl rfl rfl rfl rfl (fun _ => ?_)
  refine sxo_box rfl rfl rfl rfl rfl rfl (fun _ => ?_)
  refine sxo_pure rfl rfl rfl trivial ?_
  refine sxo_end ?_
  refine sx_seq ?_
  refine sx_draw (by kernel_rfl) [0, 1, 2, 3, 5, 6, 7, 8, 10, 11, 12, 13, 4, 9, 14, 15, 16, 17] [(6, 4), (8, 4), (11, 4), (11, 9), (13, 4), (13, 9)] (by kernel_rfl) ?_
  refine sxo_pure rfl rfl rfl trivial ?_
  refine sxo_load rfl rfl rfl (by exact .head) rfl rfl rfl rfl ?_
  refine sxo_pure rfl rfl rfl trivial ?_
  refine sxo_load rfl rfl rfl (by exact .tail .head) rfl rfl rfl rfl ?_
  refine sxo_pure rfl rfl rfl trivial ?_
  refine sxo_loadF rfl rfl rfl (by exact .tail .head) rfl rfl rfl ?_
  refine sxo_pure rfl rfl rfl trivial ?_
  refine sxo_loadF rfl rfl rfl (by exact .head) rfl rfl rfl ?_
  refine sxo_pure rfl rfl rfl trivial ?_
  refine sxo_loadF rfl rfl rfl (by exact .head) rfl rfl rfl ?_
  refine sxo_pure rfl rfl rfl trivial ?_
  refine sxo_loadF rfl rfl rfl (by exact .tail .head) rfl rfl rfl ?_
  refine sxo_call0 rfl rfl rfl rfl (by exact .nil) (fun Kc hK hB => Compare_ok Kc [] _ _) rfl rfl ?_ (hH := by rintro v m ⟨rfl, rfl⟩; (refine hh_chk ⟨_, _, _, (by exact .tail .head), (by rfl)⟩ ?_; refine hh_chk ⟨_, _, _, (by exact .head), (by rfl)⟩ ?_; refine hh_chk ⟨_, _, _, (by exact .head), (by rfl)⟩ ?_; refine hh_chk ⟨_, _, _, (by exact .tail .head), (by rfl)⟩ ?_; exact hh_nil))
  rintro v m ⟨rfl, rfl⟩
  simp only [List.cons_append, List.nil_append, List.append_nil, resV]
  skip
  refine sxo_call0 rfl rfl rfl rfl (by exact .nil) (fun Kc hK hB => Compare_ok Kc [] _ _) rfl rfl ?_ (hH := by rintro v m ⟨rfl, rfl⟩; (refine hh_chk ⟨_, _, _, (by exact .tail .head), (by rfl)⟩ ?_; refine hh_chk ⟨_, _, _, (by exact .head), (by rfl)⟩ ?_; refine hh_free rfl ?_; refine hh_free rfl ?_; exact hh_nil))
  rintro v m ⟨rfl, rfl⟩
  simp only [List.cons_append, List.nil_append, List.append_nil, resV]
  skip
  refine sxo_call0 rfl rfl rfl rfl (by exact .nil) (fun Kc hK hB => Compare_ok Kc [] _ _) rfl rfl ?_ (hH := by rintro v m ⟨rfl, rfl⟩; (refine hh_free rfl ?_; refine hh_free rfl ?_; refine hh_free rfl ?_; refine hh_free rfl ?_; exact hh_nil))
  rintro v m ⟨rfl, rfl⟩
  simp only [List.cons_append, List.nil_append, List.append_nil, resV]
  refine sxo_buildSlice rfl rfl rfl rfl rfl rfl rfl rfl rfl rfl rfl rfl rfl (fun _ => ?_)
  refine sxo_call0 rfl rfl rfl rfl .all (fun Kc hK hB => Or_ok Kc _ _ _ _ [_, _, _] (Reads.blk (by exact .head) rfl rfl (fun _ _ => rfl)) (by simp)) rfl rfl ?_ (hH := by rintro v m ⟨rfl, rfl⟩; (refine hh_free rfl ?_; refine hh_free rfl ?_; refine hh_free rfl ?_; refine hh_free rfl ?_; exact hh_nil))
  rintro v m ⟨rfl, rfl⟩
  simp only [List.cons_append, List.nil_append, List.append_nil, resV]
  refine sxo_pure rfl rfl rfl trivial ?_
  refine sxo_end ?_
  refine sx_retL hret hro hk (.tmp rfl .nil) ⟨⟨_, rfl⟩, rfl⟩ (by exact .nil)
theorem MinMember_ok (K : Hp) (p : Option Addr) (n c : Nat) (l : List Member) (hl : 0 < l.length) (hl2 : l.length < 4611686018427387904) : TR Tryz.prog K 298 [.o (.slice p n c), .o (.func (.func 299) #[] #[])] [.vec ⟨p, n, c⟩ 101 4 encM l]
    fun v m => (∃ x, x ∈ l ∧ v = .s (evM x)) ∧ m = [.vec ⟨p, n, c⟩ 101 4 encM l] := by
  refine tr_intro Tryz.func298 rfl rfl rfl fun cx hro hk hret => ?_
  refine sx_seq ?_
  refine sx_region ?_
  refine sxo_alloc rfl rfl rfl rfl rfl rfl (fun _ => ?_)
  refine sxo_end ?_
  refine sx_seq ?_
  refine sx_seq ?_
  refine sx_region ?_
  refine sxo_pure rfl rfl rfl trivial ?_
  refine sxo_len rfl rfl rfl rfl rfl (by exact Reads.own (by exact .tail .head)) rfl rfl ?_
  refine sxo_pure rfl rfl rfl trivial ?_
  refine sxo_end ?_
  refine sx_cond rfl (fun h => ?_) (fun h => ?_)
  · simp at h; omega
  clear h
  refine sx_skip ?_
  refine sx_seq ?_
  refine sx_region ?_
  refine sxo_pure rfl rfl rfl trivial ?_
  refine sxo_indexAddr rfl rfl rfl rfl rfl rfl rfl (Reads.own (by exact .tail .head)) (by omega) rfl (fun _ _ => ?_)
  refine sxo_loadEl0 rfl rfl rfl (by exact .head) (Reads.own (by exact .tail (.tail .head))) rfl (by omega) (fun _ => rfl) rfl rfl (fun x0 hx0 => ?_)
  refine sxo_alloc rfl rfl rfl rfl rfl rfl (fun _ => ?_)
  refine sxo_store rfl rfl rfl rfl (by exact .head) rfl rfl rfl rfl rfl ?_
  refine sxo_end ?_
  refine sx_seq ?_
  refine sx_seq ?_
  refine sx_region ?_
  refine sxo_pure rfl rfl rfl trivial ?_
  refine sxo_end ?_
  refine sx_block ?_
  rename_i b4 _ _ b5
  refine sx_less (by refine .cons rfl ?_; refine .cons rfl ?_; refine .cons rfl ?_; refine .cons rfl ?_; refine .cons rfl ?_; exact .nil _) (by (apply Take.cons; focus exact .head); (apply Take.cons; focus exact .tail .head); (apply Take.cons; focus exact .tail .head); exact .nil) (sx_loopI (γ := Member × Int) (fun x => 1 ≤ x.2 ∧ x.2 ≤ l.length ∧ x.1 ∈ l) (fun x => (l.length - x.2).toNat) (fun x => [(0, .s (.o (.slice p n c))), (1, .s (.o (.func (.func 299) #[] #[]))), (4, .s (.o (.pointer (some ⟨b4, 0, none⟩)))), (5, .s (.o (.pointer (some ⟨b5, 0, none⟩)))), (6, .s (.o (.int .i64 x.2)))]) (fun x => [.blk b5 101 (encM x.1), .blk b4 101 (encM Member.z), .vec ⟨p, n, c⟩ 101 4 encM l]) ((x0, 1)) (⟨by simp, by simp; omega, List.mem_of_getElem? hx0⟩) ?_)
  rintro ⟨m, i⟩ ⟨h1, h2, h3⟩ ih
  simp only at h1 h2 h3
  refine sx_seq ?_
  refine sx_seq ?_
  refine sx_region ?_
  refine sxo_pure rfl rfl rfl trivial ?_
  refine sxo_pure rfl rfl rfl trivial ?_
  refine sxo_len rfl rfl rfl rfl rfl (by exact Reads.own (by exact .tail (.tail .head))) rfl rfl ?_
  refine sxo_pure rfl rfl rfl trivial ?_
  refine sxo_end ?_
  refine sx_cond rfl (fun h => ?_) (fun h => ?_)
  · simp at h
    refine sx_skip ?_
    refine sx_seq ?_
    refine sx_block ?_
    refine sx_seq ?_
    refine sx_draw (by kernel_rfl) [0, 1, 2, 3, 4, 5, 6, 7] [] (by kernel_rfl) ?_
    refine sxo_pure rfl rfl rfl trivial ?_
    refine sxo_pure rfl rfl rfl trivial ?_
    refine sxo_pure rfl rfl rfl trivial ?_
    refine sxo_indexAddr rfl rfl rfl rfl rfl rfl rfl (Reads.own (by exact .tail (.tail .head))) (by omega) rfl (fun _ _ => ?_)
    refine sxo_loadEl0 rfl rfl rfl (by exact .head) (Reads.own (by exact .tail (.tail (.tail .head)))) rfl (by omega) (fun _ => rfl) rfl rfl (fun y hy => ?_)
    refine sxo_load rfl rfl rfl (by exact .tail .head) rfl rfl rfl rfl ?_
    refine sxo_call0 rfl rfl rfl rfl (by exact .nil) (fun Kc hK hB => first1_ok Kc _ _) rfl rfl ?_ (hH := by rintro v m ⟨⟨q, rfl⟩, rfl⟩; (exact hh_nil))
    rintro v m ⟨⟨q, rfl⟩, rfl⟩
    simp only [List.cons_append, List.nil_append, List.append_nil, resV]
    refine sxo_pure rfl rfl rfl trivial ?_
    refine sxo_end ?_
    refine sx_cond rfl (fun h => ?_) (fun h => ?_)
    · refine sx_region ?_
      refine sxo_pure rfl rfl rfl trivial ?_
      refine sxo_pure rfl rfl rfl trivial ?_
      refine sxo_indexAddr rfl rfl rfl rfl rfl rfl rfl (Reads.own (by exact .tail (.tail (.tail .head)))) (by omega) rfl (fun _ _ => ?_)
      refine sxo_loadEl0 rfl rfl rfl (by exact .head) (Reads.own (by exact .tail (.tail (.tail (.tail .head))))) rfl (by omega) (fun _ => rfl) rfl rfl (fun y2 hy2 => ?_)
      refine sxo_store rfl rfl rfl rfl (by exact .tail (.tail .head)) rfl rfl rfl rfl rfl ?_
      refine sxo_end ?_
      refine sx_inBlock ?_
      refine sx_region ?_
      refine sxo_pure rfl rfl rfl trivial ?_
      refine sxo_pure rfl rfl rfl (by omega) ?_
      refine sxo_pure rfl rfl rfl trivial ?_
      refine sxo_end ?_
      refine sx_less (by refine .cons rfl ?_; refine .cons rfl ?_; refine .cons rfl ?_; refine .cons rfl ?_; refine .cons rfl ?_; exact .nil _) (by (apply Take.cons; focus exact .head); (apply Take.cons; focus exact .tail (.tail .head)); (apply Take.cons; focus exact .tail (.tail .head)); exact .nil) (ih ((y2, i + 1)) (⟨by simp only; omega, by simp only; omega, List.mem_of_getElem? hy2⟩) (by simp only; omega))
    · refine sx_skip ?_
      refine sx_inBlock ?_
      refine sx_region ?_
      refine sxo_pure rfl rfl rfl trivial ?_
      refine sxo_pure rfl rfl rfl (by omega) ?_
      refine sxo_pure rfl rfl rfl trivial ?_
      refine sxo_end ?_
      refine sx_less (by refine .cons rfl ?_; refine .cons rfl ?_; refine .cons rfl ?_; refine .cons rfl ?_; refine .cons rfl ?_; exact .nil _) (by (apply Take.cons; focus exact .tail .head); (apply Take.cons; focus exact .tail .head); (apply Take.cons; focus exact .tail .head); exact .nil) (ih ((m, i + 1)) (⟨by simp only; omega, by simp only; omega, h3⟩) (by simp only; omega))
  · refine sx_exit rfl ?_
    refine sx_seq ?_
    refine sx_region ?_
    refine sxo_load rfl rfl rfl (by exact .head) rfl rfl rfl rfl ?_
    refine sxo_store rfl rfl rfl rfl (by exact .tail .head) rfl rfl rfl rfl rfl ?_
    refine sxo_end ?_
    refine sx_retL hret hro hk (.cell rfl (by exact .head) rfl rfl .nil) ⟨⟨_, h3, rfl⟩, rfl⟩ (by (apply Take.cons; focus exact .tail (.tail .head)); exact .nil)
@[reducible] def viewCh (self : Member) (most : Int) (bm : Nat) : List Ch := [.c (.int .i64 self.id), .c (.int .i64 self.inc), .c (.int .i64 self.state), .c (.int .i64 self.since), .c (.int .i64 most), .c (.map (some bm))]
theorem first_ok (K : Hp) (bv bm : Nat) (self : Member) (most : Int) (m : List (Int × Member)) (hm : 0 < m.length) (hm2 : m.length ≤ 1000000) : TR Tryz.prog K 195 [evPtr bv] [.blk bv 143 (viewCh self most bm), .map bm ekInt evM m]
    fun v r => (∃ x : Int × Member, x ∈ m ∧ v = .s (.o (.int .i64 x.2.id))) ∧ r = [.blk bv 143 (viewCh self most bm), .map bm ekInt evM m] := by
  refine tr_intro Tryz.func195 rfl rfl rfl fun cx hro hk hret => ?_
  refine sx_seq ?_
  refine sx_region ?_
  refine sxo_pure rfl rfl rfl trivial ?_
  refine sxo_end ?_
  refine sx_seq ?_
  refine sx_region ?_
  refine sxo_pure rfl rfl rfl trivial ?_
  refine sxo_pure rfl rfl rfl trivial ?_
  refine sxo_pure rfl rfl rfl trivial ?_
  refine sxo_load rfl rfl rfl (by exact .head) rfl rfl rfl rfl ?_
  refine sxo_call0 rfl rfl rfl rfl (by exact .nil) (fun Kc hK hB => ValsMember_ok Kc bm) rfl rfl ?_ (hH := by rintro v m ⟨bx, rfl, rfl⟩; (exact hh_nil))
  rintro v m ⟨bx, rfl, rfl⟩
  simp only [List.cons_append, List.nil_append, List.append_nil, resV]
  skip
  refine sxo_call0 rfl rfl rfl rfl (by (apply Take.cons; focus exact .head); (apply Take.cons; focus exact .tail .head); exact .nil) (fun Kc hK hB => AppMemberC_ok Kc _ [.o (.pointer (some ⟨bx, 0, none⟩))] _ _ _ (by omega) (ValsMember_seq Kc bx bm m)) rfl rfl ?_ (hH := by rintro v m ⟨p, n, c, l, hl, rfl, rfl⟩; (exact hh_nil))
  rintro v m ⟨p, n, c, l, hl, rfl, rfl⟩
  simp only [List.cons_append, List.nil_append, List.append_nil, resV]
  refine sxo_pure rfl rfl rfl trivial ?_
  refine sxo_end ?_
  refine sx_seq ?_
  refine sx_region ?_
  refine sxo_pure rfl rfl rfl trivial ?_
  refine sxo_call0 rfl rfl rfl rfl (by (apply Take.cons; focus exact .head); exact .nil) (fun Kc hK hB => MinMember_ok Kc p n c l (by rw [hl.length_eq]; simpa using hm) (by rw [hl.length_eq]; simp; omega)) rfl rfl ?_ (hH := by rintro v m ⟨⟨x, hx, rfl⟩, rfl⟩; (exact hh_nil))
  rintro v m ⟨⟨x, hx, rfl⟩, rfl⟩
  simp only [List.cons_append, List.nil_append, List.append_nil, resV]
  refine sxo_pure rfl rfl rfl trivial ?_
  refine sxo_pure rfl rfl rfl trivial ?_
  refine sxo_end ?_
  obtain ⟨y, hy, rfl⟩ := List.mem_map.1 (hl.mem_iff.1 hx)
  refine sx_retL hret hro hk (.tmp rfl .nil) ⟨⟨y, hy, rfl⟩, rfl⟩ (by (apply Take.cons; focus exact .tail (.tail (.tail .head))); (apply Take.cons; focus exact .tail (.tail .head)); exact .nil)
end Go.SX
