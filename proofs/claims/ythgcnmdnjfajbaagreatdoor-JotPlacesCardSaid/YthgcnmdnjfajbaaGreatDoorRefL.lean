/- Words for the walks over the reference's lists and objects: what value comes to; the two blocks in which a value is put together. Conditions: none. -/
import Derived.Test.YthgcnmdnjfajbaaGreatDoorRefK
import Derived.Test.YthgcnmdnjfajbaaGreatDoorJotToO
import Derived.Deep.Upon
namespace Go.Proofs.YthgcnmdnjfajbaaGreatDoor
open Go.RowKit
namespace Jot

/-- What value comes to (and list, object). -/
def RVal (bp : Nat) (s : ByteArray) (w : World) (i d : Nat) (e : Ending) (w' : World) : Prop :=
  (∃ (k n : Int) (t : Bs) (an : Option Addr) (ln cn : Nat) (ai : Option Addr) (li ci : Nat) (jv : JV) (j : Nat), i < j ∧ j ≤ s.size ∧ RWent bp s w (.tuple #[.agg #[.int .i64 k, .int .i64 n, str t, .slice an ln cn, .slice ai li ci], .bool true]) j d e w' ∧
    ∀ K : List Fr, K.length = d → R (L s) i ⟨.val, K⟩ = R (L s) j ⟨.after jv, K⟩) ∨
  (∃ (k n : Int) (t : Bs) (an : Option Addr) (ln cn : Nat) (ai : Option Addr) (li ci : Nat) (q p : Nat), p ≤ s.size ∧ RGave bp s w (.tuple #[.agg #[.int .i64 k, .int .i64 n, str t, .slice an ln cn, .slice ai li ci], .bool false]) q p e w' ∧
    ∀ K : List Fr, K.length = d → R (L s) i ⟨.val, K⟩ = .bad q p)

/-- No blank stands at i. -/
def NoBlank (s : ByteArray) (i : Nat) : Prop := ∀ c, (L s)[i]? = some c → isBlank c = false

/-- value's contract at a depth. -/
def ValueR (s : ByteArray) (d : Nat) : Prop :=
  ∀ (bp i : Nat) (w : World), RAt w bp s i 0 d → i ≤ s.size → NoBlank s i → Calls Tryz.prog 29 #[.pointer (some ⟨bp, 0, none⟩)] w (RVal bp s w i d)

theorem RAt.setOther {w : World} {bp : Nat} {s : ByteArray} {i e d : Nat} (h : RAt w bp s i e d) {b o : Nat} (hn : bp ≠ b) (u : Value) : RAt (w.setCell ⟨b, o, none⟩ u) bp s i e d := by
  unfold RAt at h ⊢; rw [heap_set_far _ _ _ _ hn]; exact h

/-- The two blocks: the result's, and the value's that is put together. -/
structure RL (w : World) (bp : Nat) (wr : World) (kd : Int) (nv iv : Value) : Prop where
  kept : Kept bp w wr
  b0 : wr.heap[w.heap.size]? = some (.cells #[.int .i64 0, .int .i64 0, .string ⟨#[]⟩, .slice none 0 0, .slice none 0 0] 26 (0, 0))
  b1 : wr.heap[w.heap.size + 1]? = some (.cells #[.int .i64 kd, .int .i64 0, .string ⟨#[]⟩, nv, iv] 26 (0, 0))

theorem RL.start {w w1 : World} {bp : Nat} {kd : Int} (hbp : bp < w.heap.size) (K : Kept bp ((w.alloc (.cells #[.int .i64 0, .int .i64 0, .string ⟨#[]⟩, .slice none 0 0, .slice none 0 0] 26 (0, 0))).alloc (.cells #[.int .i64 kd, .int .i64 0, .string ⟨#[]⟩, .slice none 0 0, .slice none 0 0] 26 (0, 0))) w1) :
    RL w bp w1 kd (.slice none 0 0) (.slice none 0 0) := by
  refine ⟨(((Kept.refl bp w).alloc _).alloc _).trans K, ?_, ?_⟩
  · rw [K.block _ (by simp; omega) (by omega), Below.heap_alloc _ _ _ (by simp)]; exact heap_alloc_new _ _
  · rw [K.block _ (by simp) (by omega)]; exact heap_alloc_at _ _ (by simp)

theorem RL.lt {w wr : World} {bp : Nat} {kd : Int} {nv iv : Value} (h : RL w bp wr kd nv iv) : w.heap.size + 2 ≤ wr.heap.size := (Array.getElem?_eq_some_iff.1 h.b1).1

theorem RL.keptK {w wr w' : World} {bp : Nat} {kd : Int} {nv iv : Value} (h : RL w bp wr kd nv iv) (hbp : bp < w.heap.size) (K : Kept bp wr w') : RL w bp w' kd nv iv := by
  have := h.lt
  exact ⟨h.kept.trans K, (K.block _ (by omega) (by omega)).trans h.b0, (K.block _ (by omega) (by omega)).trans h.b1⟩

/-- What the walk reads of them. -/
theorem RL.facts {w wr : World} {bp : Nat} {kd : Int} {nv iv : Value} (h : RL w bp wr kd nv iv) :
    (wr.cell? ⟨w.heap.size + 1, 0, none⟩ = some (.int .i64 kd) ∧ wr.cell? ⟨w.heap.size + 1, 1, none⟩ = some (.int .i64 0) ∧ wr.cell? ⟨w.heap.size + 1, 2, none⟩ = some (.string ⟨#[]⟩) ∧ wr.cell? ⟨w.heap.size + 1, 3, none⟩ = some nv ∧ wr.cell? ⟨w.heap.size + 1, 4, none⟩ = some iv) ∧
    (wr.cell? ⟨w.heap.size, 0, none⟩ = some (.int .i64 0) ∧ wr.cell? ⟨w.heap.size, 1, none⟩ = some (.int .i64 0) ∧ wr.cell? ⟨w.heap.size, 2, none⟩ = some (.string ⟨#[]⟩) ∧ wr.cell? ⟨w.heap.size, 3, none⟩ = some (.slice none 0 0) ∧ wr.cell? ⟨w.heap.size, 4, none⟩ = some (.slice none 0 0)) ∧
    (wr.frozen? ⟨w.heap.size, 0, none⟩ = false ∧ wr.frozen? ⟨w.heap.size, 1, none⟩ = false ∧ wr.frozen? ⟨w.heap.size, 2, none⟩ = false ∧ wr.frozen? ⟨w.heap.size, 3, none⟩ = false ∧ wr.frozen? ⟨w.heap.size, 4, none⟩ = false) ∧
    (wr.frozen? ⟨w.heap.size + 1, 0, none⟩ = false ∧ wr.frozen? ⟨w.heap.size + 1, 1, none⟩ = false ∧ wr.frozen? ⟨w.heap.size + 1, 2, none⟩ = false ∧ wr.frozen? ⟨w.heap.size + 1, 3, none⟩ = false ∧ wr.frozen? ⟨w.heap.size + 1, 4, none⟩ = false) := by
  have hb0 := h.b0
  have hb1 := h.b1
  refine ⟨⟨?_, ?_, ?_, ?_, ?_⟩, ⟨?_, ?_, ?_, ?_, ?_⟩, ⟨?_, ?_, ?_, ?_, ?_⟩, ⟨?_, ?_, ?_, ?_, ?_⟩⟩
  all_goals first
    | (simp [World.cell?, hb0]; done)
    | (simp [World.cell?, hb1]; done)
    | (simp [World.frozen?, hb0]; done)
    | (simp [World.frozen?, hb1]; done)

theorem ones_append {a b : List Value} (ha : ∀ u ∈ a, Value.oneCell' u = true) (hb : ∀ u ∈ b, Value.oneCell' u = true) : ∀ u ∈ a ++ b, Value.oneCell' u = true := fun u hu => (List.mem_append.1 hu).elim (ha u) (hb u)

/-- An item more: laid into a block of its own, appended, stored. -/
theorem RL.item {w wr w3 w4 : World} {bp : Nat} {kd : Int} {nv iv : Value} (h : RL w bp wr kd nv iv) (hbp : bp < w.heap.size) (K3 : Kept bp wr w3) {o1 o2 : Obj} (hg : ((w3.alloc o1).alloc o2).grownBy w4 iv.ownBlock)
    (hiv : ∀ k, iv.ownBlock = some k → w.heap.size + 2 ≤ k) (iv' : Value) : RL w bp (w4.setCell ⟨w.heap.size + 1, 4, none⟩ iv') kd nv iv' := by
  have hl := h.lt
  have h3 := K3.size
  have h4 := hg.size
  simp at h4
  have hn : ∀ b, b < w.heap.size + 2 → some b ≠ iv.ownBlock := fun b hb e => by have := hiv b e.symm; omega
  have same : ∀ b, b < w.heap.size + 2 → b ≠ bp → w4.heap[b]? = wr.heap[b]? := fun b hb hb2 => by
    rw [hg.block b (by simp; omega) (hn b hb), Below.heap_alloc _ _ _ (by simp; omega), Below.heap_alloc _ _ _ (by omega), K3.block b (by omega) hb2]
  refine ⟨⟨?_, ?_, ?_, ?_, fun b hb hb2 => ?_⟩, ?_, ?_⟩
  · exact hg.os.trans (K3.os.trans h.kept.os)
  · exact hg.tape.trans (K3.tape.trans h.kept.tape)
  · exact hg.output.trans (K3.output.trans h.kept.output)
  · rw [size_set]; omega
  · rw [heap_set_far _ _ _ _ (by omega), same b (by omega) hb2]; exact h.kept.block b hb hb2
  · rw [heap_set_far _ _ _ _ (by omega), same _ (by omega) (by omega)]; exact h.b0
  · rw [heap_set_same ((same _ (by omega) (by omega)).trans h.b1)]; rfl

/-- The value, laid into the result's block. -/
theorem RL.five {w wr : World} {bp : Nat} {kd : Int} {nv iv : Value} (h : RL w bp wr kd nv iv) (hbp : bp < w.heap.size) {s : ByteArray} {i e d : Nat} (A : RAt wr bp s i e d) (u0 u1 u2 u3 u4 : Value) :
    Kept bp w (setFive wr w.heap.size u0 u1 u2 u3 u4) ∧ RAt (setFive wr w.heap.size u0 u1 u2 u3 u4) bp s i e d := by
  refine ⟨((((h.kept.setNew (Nat.le_refl _) _).setNew (Nat.le_refl _) _).setNew (Nat.le_refl _) _).setNew (Nat.le_refl _) _).setNew (Nat.le_refl _) _, ?_⟩
  unfold RAt at A ⊢
  rw [setFive_far _ _ _ _ _ _ trivial (by omega)]; exact A

end Jot
end Go.Proofs.YthgcnmdnjfajbaaGreatDoor
