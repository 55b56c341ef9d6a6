/- Walks of package jot: digit, open, empty. Conditions: a parser that stands in its text. -/
import Derived.Test.YthgcnmdnjfajbaaGreatDoorJotWalkD
namespace Go.Proofs.YthgcnmdnjfajbaaGreatDoor
open Go.RowKit
namespace Jot

set_option maxRecDepth 100000 in
set_option maxHeartbeats 400000 in
theorem digit_yes (bp : Nat) (s : ByteArray) (i d : Nat) (w : World) (h : At w bp s i d) (hi : i < s.size) (h0 : 48 ≤ s[i].toNat) (h9 : s[i].toNat ≤ 57) :
    Calls Tryz.prog 48 #[.pointer (some ⟨bp, 0, none⟩)] w fun e w' => e = .returned (.bool true) ∧ ∃ n, w' = w.drewN n := by
  have c1 := h.c1
  have c0 := h.c0
  have hi' : (i : Int) < s.size := by omega
  have g0 : (48 : Int) ≤ (s[i].toNat : Int) := by omega
  have g9 : (s[i].toNat : Int) ≤ 57 := by omega
  clear h h0 h9
  go_enter Tryz.func48, Tryz.ntmps48
  go_wp2
  go_quiet (fail)
  go_wp2
  go_ret
  exact ⟨rfl, _, rfl⟩

set_option maxRecDepth 100000 in
set_option maxHeartbeats 400000 in
theorem digit_low (bp : Nat) (s : ByteArray) (i d : Nat) (w : World) (h : At w bp s i d) (hi : i < s.size) (h0 : s[i].toNat < 48) :
    Calls Tryz.prog 48 #[.pointer (some ⟨bp, 0, none⟩)] w fun e w' => e = .returned (.bool false) ∧ ∃ n, w' = w.drewN n := by
  have c1 := h.c1
  have c0 := h.c0
  have hi' : (i : Int) < s.size := by omega
  have g0 : decide ((48 : Int) ≤ (s[i].toNat : Int)) = false := by simp; omega
  clear h h0
  go_enter Tryz.func48, Tryz.ntmps48
  go_wp2
  go_quiet (fail)
  go_wp2
  go_ret
  exact ⟨rfl, _, rfl⟩

set_option maxRecDepth 100000 in
set_option maxHeartbeats 400000 in
theorem digit_high (bp : Nat) (s : ByteArray) (i d : Nat) (w : World) (h : At w bp s i d) (hi : i < s.size) (h9 : 57 < s[i].toNat) :
    Calls Tryz.prog 48 #[.pointer (some ⟨bp, 0, none⟩)] w fun e w' => e = .returned (.bool false) ∧ ∃ n, w' = w.drewN n := by
  have c1 := h.c1
  have c0 := h.c0
  have hi' : (i : Int) < s.size := by omega
  have g0 : (48 : Int) ≤ (s[i].toNat : Int) := by omega
  have g9 : decide ((s[i].toNat : Int) ≤ 57) = false := by simp; omega
  clear h h9
  go_enter Tryz.func48, Tryz.ntmps48
  go_wp2
  go_quiet (fail)
  go_wp2
  go_ret
  exact ⟨rfl, _, rfl⟩

set_option maxRecDepth 100000 in
set_option maxHeartbeats 400000 in
theorem digit_end (bp : Nat) (s : ByteArray) (i d : Nat) (w : World) (h : At w bp s i d) (hi : s.size ≤ i) :
    Calls Tryz.prog 48 #[.pointer (some ⟨bp, 0, none⟩)] w fun e w' => e = .returned (.bool false) ∧ ∃ n, w' = w.drewN n := by
  have c1 := h.c1
  have c0 := h.c0
  have hi' : decide ((i : Int) < s.size) = false := by simp; omega
  have hlt : ¬ i < s.size := by omega
  clear h hi
  go_enter Tryz.func48, Tryz.ntmps48
  go_wp2
  go_quiet (fail)
  go_wp2
  go_ret
  exact ⟨rfl, _, rfl⟩

/-- Does a digit stand at i? -/
def digitAt (s : ByteArray) (i : Nat) : Bool := match (L s)[i]? with | some c => isDigit c | none => false

theorem isDigit_nat (c : UInt8) : isDigit c = (decide (48 ≤ c.toNat) && decide (c.toNat ≤ 57)) := by
  simp [isDigit, UInt8.le_iff_toNat_le]

theorem digit_any (bp : Nat) (s : ByteArray) (i d : Nat) (w : World) (h : At w bp s i d) :
    Calls Tryz.prog 48 #[.pointer (some ⟨bp, 0, none⟩)] w fun e w' => e = .returned (.bool (digitAt s i)) ∧ ∃ n, w' = w.drewN n := by
  by_cases hi : i < s.size
  · have e : digitAt s i = (decide (48 ≤ s[i].toNat) && decide (s[i].toNat ≤ 57)) := by simp only [digitAt, L_get hi, isDigit_nat]
    rw [e]
    by_cases h0 : 48 ≤ s[i].toNat
    · by_cases h9 : s[i].toNat ≤ 57
      · simp only [h0, h9, decide_true, Bool.and_true]; exact digit_yes bp s i d w h hi h0 h9
      · simp only [h9, decide_false, Bool.and_false]; exact digit_high bp s i d w h hi (by omega)
    · simp only [h0, decide_false, Bool.false_and]; exact digit_low bp s i d w h hi (by omega)
  · have e : digitAt s i = false := by simp only [digitAt, L_end (Nat.le_of_not_lt hi)]
    rw [e]
    exact digit_end bp s i d w h (Nat.le_of_not_lt hi)

set_option maxHeartbeats 400000 in
theorem open_deep (bp : Nat) (s : ByteArray) (i : Nat) (w : World) (h : At w bp s i 16) :
    Calls Tryz.prog 42 #[.pointer (some ⟨bp, 0, none⟩)] w (Gave bp w 41 i) := by
  have c2 := h.c2
  have HF := Lib.hid (fail_any bp s i 16 41 w h)
  clear h
  go_enter Tryz.func42, Tryz.ntmps42
  go_wp2_with (go_at_call 13; refine HF.out.mono ?_; rintro e w' ⟨rfl, rfl⟩)
  exact ⟨rfl, rfl, Kept.refl _ _⟩

set_option maxHeartbeats 400000 in
theorem open_ok (bp : Nat) (s : ByteArray) (i d : Nat) (w : World) (h : At w bp s i d) (hd : d < 16) (hi : i < s.size) (hs : s.size ≤ 4000) :
    Calls Tryz.prog 42 #[.pointer (some ⟨bp, 0, none⟩)] w fun e w' => ∃ j, Blanks s (i + 1) j ∧ Went bp s w (.tuple #[]) j (d + 1) e w' := by
  have c1 := h.c1
  have c2 := h.c2
  have f1 := h.f1
  have f2 := h.f2
  have hne : ((d : Int) == 16) = false := by simp; omega
  have hA : At ((w.setCell ⟨bp, 2, none⟩ (.int .i64 (d + 1 : Nat))).setCell ⟨bp, 1, none⟩ (.int .i64 (i + 1 : Nat))) bp s (i + 1) (d + 1) := (h.set2 (d + 1)).set1 (i + 1)
  have hK : Kept bp w ((w.setCell ⟨bp, 2, none⟩ (.int .i64 (d + 1 : Nat))).setCell ⟨bp, 1, none⟩ (.int .i64 (i + 1 : Nat))) := ((Kept.refl bp w).setCell rfl _).setCell rfl _
  have HB := Lib.hid (blanks_any bp s (i + 1) (d + 1) _ hA (by omega) hs)
  have HK := Lib.hid hK
  clear hA h hK
  go_enter Tryz.func42, Tryz.ntmps42
  go_wp2_with (go_at_call 12; refine HB.out.mono ?_; rintro e w' ⟨j, hj, rfl, hA, hK⟩)
  go_end0
  exact ⟨j, hj, rfl, hA, HK.out.trans hK⟩

end Jot
end Go.Proofs.YthgcnmdnjfajbaaGreatDoor
