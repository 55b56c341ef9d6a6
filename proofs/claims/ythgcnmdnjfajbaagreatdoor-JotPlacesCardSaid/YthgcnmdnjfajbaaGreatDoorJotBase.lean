/- Words for the walks over package jot: where the parser stands in memory, what a call leaves as it was, how a call gives up. Conditions: none. -/
import Derived.Test.YthgcnmdnjfajbaaGreatDoorRows
import Derived.Test.YthgcnmdnjfajbaaGreatDoorJotSpec
import Derived.WalkKit
import Derived.WalkSpells
import Derived.WalkLawsBesides
import Derived.Deep.QuietTactic
import Derived.BigQuiet
import Derived.Deep.DeepFit
import Derived.Lib.Hide
namespace Go.Proofs.YthgcnmdnjfajbaaGreatDoor
open Go.RowKit
namespace Jot

/-- All blocks that there were, but for one, are as they were. -/
structure Kept (bp : Nat) (w w' : World) : Prop where
  os : w'.os = w.os
  tape : w'.tape = w.tape
  output : w'.output = w.output
  size : w.heap.size ≤ w'.heap.size
  block : ∀ k, k < w.heap.size → k ≠ bp → w'.heap[k]? = w.heap[k]?

theorem Kept.refl (bp : Nat) (w : World) : Kept bp w w := ⟨rfl, rfl, rfl, Nat.le_refl _, fun _ _ _ => rfl⟩
theorem Kept.trans {bp : Nat} {a b c : World} (h : Kept bp a b) (k : Kept bp b c) : Kept bp a c :=
  ⟨k.os.trans h.os, k.tape.trans h.tape, k.output.trans h.output, Nat.le_trans h.size k.size, fun i hi hn => (k.block i (Nat.lt_of_lt_of_le hi h.size) hn).trans (h.block i hi hn)⟩
theorem Kept.drewN {bp : Nat} {a w : World} (h : Kept bp a w) (n : Nat) : Kept bp a (w.drewN n) := ⟨h.os, h.tape, h.output, h.size, h.block⟩
theorem Kept.drew {bp : Nat} {a w : World} (h : Kept bp a w) : Kept bp a w.drew := ⟨h.os, h.tape, h.output, h.size, h.block⟩
theorem Kept.alloc {bp : Nat} {a w : World} (h : Kept bp a w) (o : Obj) : Kept bp a (w.alloc o) :=
  h.trans ⟨rfl, rfl, rfl, by simp, fun k hk _ => Below.heap_alloc _ _ _ hk⟩
theorem Kept.setCell {bp : Nat} {a w : World} (h : Kept bp a w) {p : Addr} (hp : p.block = bp) (u : Value) : Kept bp a (w.setCell p u) :=
  h.trans ⟨rfl, rfl, rfl, by simp [World.setCell], fun k _ hn => Below.heap_setCell _ _ _ _ (by omega)⟩
theorem Kept.set {bp : Nat} {a w : World} (h : Kept bp a w) (o : Nat) (u : Value) : Kept bp a (w.setCell ⟨bp, o, none⟩ u) := h.setCell rfl u
theorem Kept.setNew {bp : Nat} {a w : World} (h : Kept bp a w) {p : Addr} (hp : a.heap.size ≤ p.block) (u : Value) : Kept bp a (w.setCell p u) := by
  refine ⟨h.os, h.tape, h.output, ?_, fun k hk hn => ?_⟩
  · have := h.size; simpa [World.setCell] using this
  · rw [Below.heap_setCell _ _ _ _ (by omega)]; exact h.block k hk hn

/-- The parser in block bp: its text, its place, how deep it stands. -/
def At (w : World) (bp : Nat) (s : ByteArray) (at_ deep : Nat) : Prop :=
  w.heap[bp]? = some (.cells #[.string s, .int .i64 at_, .int .i64 deep] 42 (0, 0))

theorem At.lt {w : World} {bp : Nat} {s : ByteArray} {i d : Nat} (h : At w bp s i d) : bp < w.heap.size := (Array.getElem?_eq_some_iff.1 h).1
theorem At.c0 {w : World} {bp : Nat} {s : ByteArray} {i d : Nat} (h : At w bp s i d) : w.cell? ⟨bp, 0, none⟩ = some (.string s) := by
  unfold At at h; simp [World.cell?, h]
theorem At.c1 {w : World} {bp : Nat} {s : ByteArray} {i d : Nat} (h : At w bp s i d) : w.cell? ⟨bp, 1, none⟩ = some (.int .i64 i) := by
  unfold At at h; simp [World.cell?, h]
theorem At.c2 {w : World} {bp : Nat} {s : ByteArray} {i d : Nat} (h : At w bp s i d) : w.cell? ⟨bp, 2, none⟩ = some (.int .i64 d) := by
  unfold At at h; simp [World.cell?, h]
theorem At.f1 {w : World} {bp : Nat} {s : ByteArray} {i d : Nat} (h : At w bp s i d) : w.frozen? ⟨bp, 1, none⟩ = false := by
  unfold At at h; simp [World.frozen?, h]
theorem At.f2 {w : World} {bp : Nat} {s : ByteArray} {i d : Nat} (h : At w bp s i d) : w.frozen? ⟨bp, 2, none⟩ = false := by
  unfold At at h; simp [World.frozen?, h]
theorem At.drewN {w : World} {bp : Nat} {s : ByteArray} {i d : Nat} (h : At w bp s i d) (n : Nat) : At (w.drewN n) bp s i d := h
theorem At.kept {w w' : World} {bp b : Nat} {s : ByteArray} {i d : Nat} (h : At w bp s i d) (k : Kept b w w') (hn : bp ≠ b) : At w' bp s i d :=
  (k.block bp h.lt hn).trans h
theorem At.set1 {w : World} {bp : Nat} {s : ByteArray} {i d : Nat} (h : At w bp s i d) (j : Nat) : At (w.setCell ⟨bp, 1, none⟩ (.int .i64 j)) bp s j d := by
  unfold At at h ⊢; simp only [World.setCell, Array.getElem?_modify, if_true, h]; simp
theorem At.set2 {w : World} {bp : Nat} {s : ByteArray} {i d : Nat} (h : At w bp s i d) (j : Nat) : At (w.setCell ⟨bp, 2, none⟩ (.int .i64 j)) bp s i j := by
  unfold At at h ⊢; simp only [World.setCell, Array.getElem?_modify, if_true, h]; simp
theorem At.alloc {w : World} {bp : Nat} {s : ByteArray} {i d : Nat} (h : At w bp s i d) (o : Obj) : At (w.alloc o) bp s i d := by
  have := h.lt
  unfold At at h ⊢; rw [Below.heap_alloc _ _ _ this]; exact h

/-- How the parser gives up: the error, and the byte. -/
def Fails (e : Ending) (k p : Nat) : Prop :=
  e = .panicked [{ v := .iface 38 (.agg #[.int .i64 k, .int .i64 p]), recovered := false }]

end Jot
end Go.Proofs.YthgcnmdnjfajbaaGreatDoor
