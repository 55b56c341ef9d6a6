/- Members sorted by their names, in plain Lean: there is one sorted row of names that differ. Conditions: none. -/
import Derived.Test.YthgcnmdnjfajbaaGreatDoorJotSpec
import Derived.Lib.Bytealg
import Derived.Sort.Statements
namespace Go.Proofs.YthgcnmdnjfajbaaGreatDoor.Jot
open Go.Lib (compareBytes)

theorem cb_self : ∀ a : Bs, compareBytes a a = 0
  | [] => rfl
  | x :: r => by
    have h : ¬ x < x := by rw [UInt8.lt_iff_toNat_lt]; omega
    simp only [compareBytes, h, if_false]; exact cb_self r

theorem cb_zero : ∀ a b : Bs, compareBytes a b = 0 → a = b
  | [], [], _ => rfl
  | [], _ :: _, h => by simp [compareBytes] at h
  | _ :: _, [], h => by simp [compareBytes] at h
  | x :: a, y :: b, h => by
    simp only [compareBytes] at h
    split at h
    · simp at h
    · split at h
      · simp at h
      · rename_i h1 h2
        rw [UInt8.lt_iff_toNat_lt] at h1 h2
        have : x = y := UInt8.toNat_inj.1 (by omega)
        rw [this, cb_zero a b h]

theorem cb_neg : ∀ a b : Bs, compareBytes b a = - compareBytes a b
  | [], [] => rfl
  | [], _ :: _ => rfl
  | _ :: _, [] => rfl
  | x :: a, y :: b => by
    simp only [compareBytes]
    by_cases h1 : x < y
    · have h2 : ¬ y < x := by rw [UInt8.lt_iff_toNat_lt] at *; omega
      simp [h1, h2]
    · by_cases h2 : y < x
      · simp [h1, h2]
      · simp only [h1, h2, if_false]; exact cb_neg a b

theorem cb_trans : ∀ a b c : Bs, compareBytes a b < 0 → compareBytes b c < 0 → compareBytes a c < 0
  | [], [], _, h, _ => by simp [compareBytes] at h
  | [], _ :: _, [], _, h => by simp [compareBytes] at h
  | [], _ :: _, _ :: _, _, _ => by simp [compareBytes]
  | _ :: _, [], _, h, _ => by simp [compareBytes] at h
  | _ :: _, _ :: _, [], _, h => by simp [compareBytes] at h
  | x :: a, y :: b, z :: c, h1, h2 => by
    simp only [compareBytes] at h1 h2 ⊢
    by_cases xy : x < y
    · by_cases yz : y < z
      · have : x < z := by rw [UInt8.lt_iff_toNat_lt] at *; omega
        simp [this]
      · by_cases zy : z < y
        · simp [yz, zy] at h2
        · have : x < z := by rw [UInt8.lt_iff_toNat_lt] at *; omega
          simp [this]
    · by_cases yx : y < x
      · simp [xy, yx] at h1
      · simp only [xy, yx, if_false] at h1
        have exy : x = y := UInt8.toNat_inj.1 (by rw [UInt8.lt_iff_toNat_lt] at *; omega)
        subst exy
        by_cases yz : x < z
        · simp [yz]
        · by_cases zy : z < x
          · simp [yz, zy] at h2
          · simp only [yz, zy, if_false] at h2 ⊢
            exact cb_trans a b c h1 h2

theorem bsLt_cb : ∀ a b : Bs, bsLt a b = decide (compareBytes a b < 0)
  | [], [] => by simp [bsLt, compareBytes]
  | [], _ :: _ => by simp [bsLt, compareBytes]
  | _ :: _, [] => by simp [bsLt, compareBytes]
  | x :: a, y :: b => by
    simp only [bsLt, compareBytes]
    by_cases h1 : x < y
    · simp [h1]
    · by_cases h2 : y < x
      · simp [h1, h2]
      · simp only [h1, h2, if_false]; exact bsLt_cb a b

theorem swo_cb : Sort.SWO (fun a b : Bs => decide (compareBytes a b < 0)) where
  irrefl x := by simp [cb_self]
  trans x y z h1 h2 := by simp only [decide_eq_true_eq] at *; exact cb_trans x y z h1 h2
  ntrans x y z h1 h2 := by
    simp only [decide_eq_false_iff_not] at *
    intro h
    rcases Int.lt_trichotomy (compareBytes x y) 0 with h' | h' | h'
    · exact h1 h'
    · rw [cb_zero _ _ h'] at h; exact h2 h
    · have h3 := cb_neg x y
      exact h2 (cb_trans y x z (by omega) h)

theorem mem_ins (x y : Bs × JV) : ∀ l, y ∈ insMem x l ↔ y = x ∨ y ∈ l
  | [] => by simp [insMem]
  | z :: r => by
    simp only [insMem]
    split
    · simp only [List.mem_cons, mem_ins x y r]; constructor <;> (rintro (h | h | h) <;> simp [h])
    · simp

theorem perm_ins (x : Bs × JV) : ∀ l, (insMem x l).Perm (x :: l)
  | [] => List.Perm.refl _
  | z :: r => by
    simp only [insMem]
    split
    · exact ((perm_ins x r).cons z).trans (List.Perm.swap x z r)
    · exact List.Perm.refl _

theorem perm_foldl : ∀ (l acc : List (Bs × JV)), (l.foldl (fun acc x => insMem x acc) acc).Perm (acc ++ l)
  | [], acc => by simp
  | x :: r, acc => by
    simp only [List.foldl_cons]
    refine (perm_foldl r _).trans ?_
    refine ((perm_ins x acc).append_right r).trans ?_
    simp only [List.cons_append]
    exact List.perm_middle.symm

theorem perm_sort (l : List (Bs × JV)) : (sortMem l).Perm l := by simpa [sortMem] using perm_foldl l []

/-- Rising, no two the same. -/
def Rises (l : List (Bs × JV)) : Prop := l.Pairwise fun a b => compareBytes a.1 b.1 < 0

theorem rises_ins (x : Bs × JV) : ∀ l, Rises l → (∀ y ∈ l, y.1 ≠ x.1) → Rises (insMem x l)
  | [], _, _ => by simp [Rises, insMem]
  | z :: r, h, hn => by
    obtain ⟨h1, h2⟩ := List.pairwise_cons.1 h
    simp only [insMem, bsLt_cb, decide_eq_true_eq]
    split
    · rename_i hz
      refine List.pairwise_cons.2 ⟨fun y hy => ?_, rises_ins x r h2 fun y hy => hn y (List.mem_cons_of_mem _ hy)⟩
      rcases (mem_ins x y r).1 hy with rfl | hy
      · exact hz
      · exact h1 y hy
    · rename_i hz
      have hxz : compareBytes x.1 z.1 < 0 := by
        have hne := hn z (List.mem_cons_self ..)
        have h3 := cb_neg x.1 z.1
        have h4 : compareBytes x.1 z.1 ≠ 0 := fun e => hne (cb_zero _ _ e).symm
        omega
      refine List.pairwise_cons.2 ⟨fun y hy => ?_, h⟩
      rcases List.mem_cons.1 hy with rfl | hy
      · exact hxz
      · exact cb_trans _ _ _ hxz (h1 y hy)

theorem rises_foldl : ∀ (l acc : List (Bs × JV)), Rises acc → ((acc ++ l).map (·.1)).Nodup → Rises (l.foldl (fun acc x => insMem x acc) acc)
  | [], acc, h, _ => h
  | x :: r, acc, h, hn => by
    simp only [List.foldl_cons]
    refine rises_foldl r _ (rises_ins x acc h ?_) ?_
    · intro y hy e
      simp only [List.map_append, List.map_cons] at hn
      have := (List.nodup_append.1 hn).2.2 y.1 (List.mem_map_of_mem hy) x.1 (List.mem_cons_self ..)
      exact this e
    · have hp : ((acc ++ x :: r).map (·.1)).Perm ((insMem x acc ++ r).map (·.1)) := by
        refine List.Perm.map _ ?_
        exact List.perm_middle.trans (((perm_ins x acc).symm).append_right r)
      exact hp.nodup_iff.1 hn

theorem rises_sort (l : List (Bs × JV)) (hn : (l.map (·.1)).Nodup) : Rises (sortMem l) := rises_foldl l [] List.Pairwise.nil (by simpa using hn)

/-- The names that a sort by their order leaves are those of the sorted members. -/
theorem names_sorted (l : List (Bs × JV)) (hn : (l.map (·.1)).Nodup) (d' : List Bs) (hp : d'.Perm (l.map (·.1))) (hs : d'.Pairwise fun a b => ¬ compareBytes b a < 0) : d' = (sortMem l).map (·.1) := by
  refine List.Perm.eq_of_pairwise (le := fun a b => ¬ compareBytes b a < 0) ?_ hs ?_ (hp.trans ((perm_sort l).map _).symm)
  · intro a b _ _ h1 h2
    have h3 := cb_neg a b
    exact cb_zero _ _ (by omega)
  · rw [List.pairwise_map]
    refine (rises_sort l hn).imp ?_
    intro a b h
    have h3 := cb_neg a.1 b.1
    omega

end Go.Proofs.YthgcnmdnjfajbaaGreatDoor.Jot
