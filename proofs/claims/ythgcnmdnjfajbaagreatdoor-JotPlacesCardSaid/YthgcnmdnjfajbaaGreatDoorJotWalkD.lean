/- Walks of package jot: blanks, digit. Conditions: a parser that stands in its text. -/
import Derived.Test.YthgcnmdnjfajbaaGreatDoorJotWalkC
import Derived.Deep.LoopGhost
import Derived.Test.YthgcnmdnjfajbaaGreatDoorShelf
namespace Go.Proofs.YthgcnmdnjfajbaaGreatDoor
open Go.RowKit
namespace Jot

/-- The blanks that stand from i on end at j. -/
def Blanks (s : ByteArray) (i j : Nat) : Prop := i ≤ j ∧ j ≤ s.size ∧ (∀ k c, i ≤ k → k < j → (L s)[k]? = some c → isBlank c = true) ∧ ∀ c, (L s)[j]? = some c → isBlank c = false

theorem index_blank {c : UInt8} (h : 0 ≤ Lib.indexByte [32, 9, 10, 13] c) : isBlank c = true := by
  by_cases h1 : c = 32
  · subst h1; rfl
  by_cases h2 : c = 9
  · subst h2; rfl
  by_cases h3 : c = 10
  · subst h3; rfl
  by_cases h4 : c = 13
  · subst h4; rfl
  have e1 : ((32 : UInt8) == c) = false := by simpa using fun e => h1 e.symm
  have e2 : ((9 : UInt8) == c) = false := by simpa using fun e => h2 e.symm
  have e3 : ((10 : UInt8) == c) = false := by simpa using fun e => h3 e.symm
  have e4 : ((13 : UInt8) == c) = false := by simpa using fun e => h4 e.symm
  simp [Lib.indexByte, e1, e2, e3, e4] at h
theorem index_other {c : UInt8} (h : Lib.indexByte [32, 9, 10, 13] c < 0) : isBlank c = false := by
  rw [Bool.eq_false_iff]
  intro hb
  simp only [isBlank, Bool.or_eq_true, beq_iff_eq] at hb
  rcases hb with ((rfl | rfl) | rfl) | rfl <;> exact absurd h (by decide)

set_option maxHeartbeats 400000 in
theorem blanks_any (bp : Nat) (s : ByteArray) (i d : Nat) (w : World) (h : At w bp s i d) (hi : i ≤ s.size) (hs : s.size ≤ 4000) :
    Calls Tryz.prog 12 #[.pointer (some ⟨bp, 0, none⟩)] w fun e w' => ∃ j, Blanks s i j ∧ Went bp s w (.tuple #[]) j d e w' := by
  go_enter Tryz.func12, Tryz.ntmps12
  go_wp2
  go_loopg [] (s.size - i) (fun k wr => ∃ j : Nat, k = s.size - j ∧ i ≤ j ∧ j ≤ s.size ∧ (∀ k c, i ≤ k → k < j → (L s)[k]? = some c → isBlank c = true) ∧ At wr bp s j d ∧ Kept bp w wr)
  case atStart => exact ⟨i, rfl, Nat.le_refl _, hi, fun k c h1 h2 => by omega, h, Kept.refl _ _⟩
  case round =>
    obtain ⟨j, hk, hij, hjs, hb, hA, hK⟩ := hrel
    have HB := Lib.hid hb
    have HA := Lib.hid hA
    have HK := Lib.hid hk
    have c0 := hA.c0
    have c1 := hA.c1
    have f1 := hA.f1
    clear hb hA hk h
    by_cases hlt : j < s.size
    · have hlt' : (j : Int) < s.size := by omega
      go_wp2_with fail
      go_quiet ((go_at_call 27; exact Calls.quiet_of_same (Tryz.strings_IndexByte _ _ _)))
      go_wp2
      · have hb := index_blank ‹0 ≤ Lib.indexByte [32, 9, 10, 13] s[j]›
        go_roundg (s.size - (j + 1))
        case measure => rw [HK.out]; omega
        case rel =>
          refine ⟨j + 1, rfl, by omega, by omega, fun k c h1 h2 h3 => ?_, (HA.out.drewN nq).set1 (j + 1), (hK.drewN nq).setCell rfl _⟩
          by_cases hkj : k < j
          · exact HB.out k c h1 hkj h3
          · obtain rfl : k = j := by omega
            rw [L_get hlt] at h3; cases h3; exact hb
      · have hb := index_other ‹Lib.indexByte [32, 9, 10, 13] s[j] < 0›
        go_end0
        exact ⟨j, ⟨hij, hjs, HB.out, fun c h => (by rw [L_get hlt] at h; cases h; exact hb)⟩, rfl, HA.out, hK.drewN nq⟩
    · have hd : decide ((j : Int) < s.size) = false := by simp; omega
      go_wp2_with fail
      go_quiet (fail)
      go_wp2
      go_end0
      exact ⟨j, ⟨hij, hjs, HB.out, fun c h => (by rw [L_end (by omega)] at h; cases h)⟩, rfl, HA.out, hK.drewN nq⟩

end Jot
end Go.Proofs.YthgcnmdnjfajbaaGreatDoor
