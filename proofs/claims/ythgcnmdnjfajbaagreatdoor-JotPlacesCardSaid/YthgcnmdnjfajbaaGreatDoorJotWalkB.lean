/- Walks of package jot: hex, word. Conditions: a parser that stands in its text. -/
import Derived.Test.YthgcnmdnjfajbaaGreatDoorJotWalkA
namespace Go.Proofs.YthgcnmdnjfajbaaGreatDoor
open Go.RowKit
namespace Jot

theorem hex_of {c : UInt8} {n : Nat} (h : hexDigit c = some n) :
    (48 ≤ c.toNat ∧ c.toNat ≤ 57 ∧ n = c.toNat - 48) ∨ (97 ≤ c.toNat ∧ c.toNat ≤ 102 ∧ n = c.toNat - 87) ∨ (65 ≤ c.toNat ∧ c.toNat ≤ 70 ∧ n = c.toNat - 55) := by
  unfold hexDigit at h
  simp only [UInt8.le_iff_toNat_le, UInt8.reduceToNat] at h
  split at h
  · simp at h; omega
  · split at h
    · simp at h; omega
    · split at h
      · simp at h; omega
      · cases h
theorem hex_09 {c : UInt8} (h1 : 48 ≤ c.toNat) (h2 : c.toNat ≤ 57) : hexDigit c = some (c.toNat - 48) := by
  unfold hexDigit; simp only [UInt8.le_iff_toNat_le, UInt8.reduceToNat]; rw [if_pos ⟨h1, h2⟩]
theorem hex_af {c : UInt8} (h1 : 97 ≤ c.toNat) (h2 : c.toNat ≤ 102) : hexDigit c = some (c.toNat - 87) := by
  unfold hexDigit; simp only [UInt8.le_iff_toNat_le, UInt8.reduceToNat]; rw [if_neg (by omega), if_pos ⟨h1, h2⟩]
theorem hex_AF {c : UInt8} (h1 : 65 ≤ c.toNat) (h2 : c.toNat ≤ 70) : hexDigit c = some (c.toNat - 55) := by
  unfold hexDigit; simp only [UInt8.le_iff_toNat_le, UInt8.reduceToNat]; rw [if_neg (by omega), if_neg (by omega), if_pos ⟨h1, h2⟩]

def HexPost (bp : Nat) (s : ByteArray) (w : World) (i d : Nat) (c : UInt8) (low high : Int) (e : Ending) (w' : World) : Prop :=
  (∃ n : Nat, hexDigit c = some n ∧ low ≤ n ∧ n ≤ high ∧ ∃ m : Int, m = n ∧ Went bp s w (.int .i64 m) (i + 1) d e w') ∨
  ((∀ n : Nat, hexDigit c = some n → ¬ (low ≤ n ∧ n ≤ high)) ∧ Gave bp w 40 i e w')

set_option maxRecDepth 100000 in
set_option maxHeartbeats 400000 in
theorem hex_some (bp : Nat) (s : ByteArray) (i d : Nat) (low high : Int) (w : World) (h : At w bp s i d) (hi : i < s.size) (hs : s.size ≤ 4000) (hl : 0 ≤ low) (_hh : high ≤ 15) :
    Calls Tryz.prog 77 #[.pointer (some ⟨bp, 0, none⟩), .int .i64 low, .int .i64 high] w (HexPost bp s w i d s[i] low high) := by
  have c1 := h.c1
  have f1 := h.f1
  have h1 := here_some bp s i d w h hi
  have HH := Lib.hid h1
  have hf := fun n => fail_form bp s i d (w.drewN n) h
  have HF := Lib.hid hf
  have H := Lib.hid h
  obtain ⟨c, hc⟩ : ∃ c : UInt8, s[i] = c := ⟨_, rfl⟩
  rw [hc] at HH ⊢
  have hc256 : (c.toNat : Int) < 256 := by have := c.toNat_lt; omega
  clear h1 h hf hc
  go_enter Tryz.func77, Tryz.ntmps77
  go_wp2_with (first | (go_at_call 21; refine HH.out.mono ?_; rintro e w' ⟨rfl, n, rfl⟩) | (go_at_call 13; refine (HF.out _).mono ?_; rintro e w' ⟨rfl, rfl⟩))
  all_goals first
    | (refine ⟨rfl, .inr ⟨?_, rfl, (Kept.refl bp w).drewN _⟩⟩; intro n hn; rcases hex_of hn with h | h | h <;> omega)
    | (go_ret; refine .inl ⟨_, hex_09 (by omega) (by omega), by omega, by omega, _, ?_, rfl, (H.out.set1 (i + 1)).drewN _, ((Kept.refl bp w).setCell rfl _).drewN _⟩; omega)
    | (go_ret; refine .inl ⟨_, hex_af (by omega) (by omega), by omega, by omega, _, ?_, rfl, (H.out.set1 (i + 1)).drewN _, ((Kept.refl bp w).setCell rfl _).drewN _⟩; omega)
    | (go_ret; refine .inl ⟨_, hex_AF (by omega) (by omega), by omega, by omega, _, ?_, rfl, (H.out.set1 (i + 1)).drewN _, ((Kept.refl bp w).setCell rfl _).drewN _⟩; omega)

set_option maxHeartbeats 400000 in
theorem hex_end (bp : Nat) (s : ByteArray) (d : Nat) (low high : Int) (w : World) (h : At w bp s s.size d) :
    Calls Tryz.prog 77 #[.pointer (some ⟨bp, 0, none⟩), .int .i64 low, .int .i64 high] w (Gave bp w 40 s.size) := by
  have h1 := here_end bp s d w h
  have HH := Lib.hid h1
  clear h1 h
  go_enter Tryz.func77, Tryz.ntmps77
  go_wp2_with (go_at_call 21; refine HH.out.mono ?_; rintro e w' ⟨rfl, n, rfl⟩)
  exact ⟨rfl, rfl, (Kept.refl bp w).drewN _⟩

end Jot
end Go.Proofs.YthgcnmdnjfajbaaGreatDoor
