/- Walk of package jot: letter. Conditions: a parser that stands in its text. -/
import Derived.Test.YthgcnmdnjfajbaaGreatDoorJotWalkE
import Derived.Test.YthgcnmdnjfajbaaGreatDoorJotPlainT
namespace Go.Proofs.YthgcnmdnjfajbaaGreatDoor
open Go.RowKit
namespace Jot

def LetterPost (bp : Nat) (s : ByteArray) (w : World) (i d : Nat) (e : Ending) (w' : World) : Prop :=
  (∃ j lo hi : Nat, i < j ∧ j ≤ s.size ∧ Went bp s w (.tuple #[]) j d e w' ∧ LetAt (L s) i j lo hi 0) ∨
  (∃ p, p ≤ s.size ∧ Gave bp w 40 p e w' ∧ ∀ key acc k, R (L s) i ⟨.text key .plain acc, k⟩ = .bad eForm p)

set_option maxRecDepth 100000 in
set_option maxHeartbeats 1000000 in
theorem letter_ascii (bp : Nat) (s : ByteArray) (i d : Nat) (w : World) (h : At w bp s i d) (hi : i < s.size) (hs : s.size ≤ 4000) (hc : s[i].toNat < 128) :
    Calls Tryz.prog 41 #[.pointer (some ⟨bp, 0, none⟩)] w (Went bp s w (.tuple #[]) (i + 1) d) := by
  have c1 := h.c1
  have f1 := h.f1
  have b8 : (s[i].toNat : Int) < 128 := by omega
  have H := Lib.hid h
  clear h hc
  go_enter Tryz.func41, Tryz.ntmps41
  go_wp2_with fail
  refine (here_some bp s i d _ (by exact H.out) hi).mono ?_
  rintro e w' ⟨rfl, n1, rfl⟩
  go_wp2_with fail
  go_end0
  exact ⟨rfl, (H.out.drewN _).set1 (i + 1), by with_reducible repeat (first | assumption | apply Kept.drewN | apply Kept.set | exact Kept.refl _ _)⟩

set_option maxRecDepth 100000 in
set_option maxHeartbeats 1000000 in
theorem letter_none (bp : Nat) (s : ByteArray) (i d : Nat) (w : World) (h : At w bp s i d) (hi : i < s.size) (hc : 128 ≤ s[i].toNat) (hl : lead s[i] = none) :
    Calls Tryz.prog 41 #[.pointer (some ⟨bp, 0, none⟩)] w (Gave bp w 40 i) := by
  have b8 : ¬ (s[i].toNat : Int) < 128 := by omega
  have H := Lib.hid h
  clear h hc
  go_enter Tryz.func41, Tryz.ntmps41
  go_wp2_with fail
  refine (here_some bp s i d _ (by exact H.out) hi).mono ?_
  rintro e w' ⟨rfl, n1, rfl⟩
  go_wp2_with fail
  refine (behind_any s[i] _).mono ?_
  rintro e w' ⟨⟨lo, hi', more, hl', rfl⟩ | ⟨_, lo, hi', rfl⟩, rfl⟩
  · rw [hl] at hl'; cases hl'
  go_wp2_with fail
  refine (fail_any bp s i d 40 _ (by exact H.out)).mono ?_
  rintro e w' ⟨rfl, rfl⟩
  go_wp2_with fail
  exact ⟨rfl, rfl, by with_reducible repeat (first | assumption | apply Kept.drewN | apply Kept.set | exact Kept.refl _ _)⟩

set_option maxRecDepth 100000 in
set_option maxHeartbeats 1000000 in
theorem letter_lead (bp : Nat) (s : ByteArray) (i d : Nat) (w : World) (h : At w bp s i d) (hi : i < s.size) (hs : s.size ≤ 4000) (hc : 128 ≤ s[i].toNat)
    (lo hi' more : Nat) (hl : lead s[i] = some (lo, hi', more)) (hp : Plainly s[i]) :
    Calls Tryz.prog 41 #[.pointer (some ⟨bp, 0, none⟩)] w (LetterPost bp s w i d) := by
  have b8 : ¬ (s[i].toNat : Int) < 128 := by omega
  have c1 := h.c1
  have f1 := h.f1
  have H := Lib.hid h
  have hL := LetAt.first (L_get hi) hp hc hl
  have HL := Lib.hid hL
  have hm : more ≤ 2 ∧ lo ≤ 255 ∧ hi' ≤ 255 := by
    rw [lead_nat] at hl
    repeat' (split at hl)
    all_goals first
      | (cases hl; done)
      | (simp only [Option.some.injEq, Prod.mk.injEq] at hl; omega)
  obtain ⟨hm, hlo, hhi⟩ := hm
  have hz : (((more : Int) + 1) == 0) = false := by simp; omega
  have HLD := Lib.hid hl
  clear h hc hL hl hp
  go_enter Tryz.func41, Tryz.ntmps41
  go_wp2_with fail
  refine (here_some bp s i d _ (by exact H.out) hi).mono ?_
  rintro e w' ⟨rfl, n1, rfl⟩
  go_wp2_with fail
  refine (behind_any s[i] _).mono ?_
  rintro e w' ⟨⟨lo1, hi1, more1, hl', rfl⟩ | ⟨hl', lo1, hi1, rfl⟩, rfl⟩
  rotate_left
  · rw [HLD.out] at hl'; cases hl'
  obtain ⟨rfl, rfl, rfl⟩ : lo1 = lo ∧ hi1 = hi' ∧ more1 = more := by rw [HLD.out] at hl'; simp only [Option.some.injEq, Prod.mk.injEq] at hl'; omega
  clear hl'
  go_wp2_with fail
  go_loopg [3, 4, 36] (more1 + 1) (fun k x y c wr => ∃ m lo hi r : Nat, k = r ∧ m + r = more1 + 1 ∧ lo ≤ 255 ∧ hi ≤ 255 ∧ x = .int .u8 lo ∧ y = .int .u8 hi ∧ c = .int .i64 m ∧ i + 1 + m ≤ s.size ∧ LetAt (L s) i (i + 1 + m) lo hi r ∧ At wr bp s (i + 1 + m) d ∧ Kept bp w wr)
  case atStart => exact ⟨0, lo1, hi1, more1 + 1, rfl, by omega, hlo, hhi, rfl, rfl, rfl, by omega, HL.out, (H.out.drewN _).set1 (i + 1), by with_reducible repeat (first | assumption | apply Kept.drewN | apply Kept.set | exact Kept.refl _ _)⟩
  case round =>
    obtain ⟨m, lo, hi2, r, hk, hmr, hl1, hh1, rfl, rfl, rfl, hms, hL, hA, hK⟩ := hrel
    have HK := Lib.hid hk
    have HLL := Lib.hid hL
    have HA := Lib.hid hA
    have c1 := hA.c1
    have f1 := hA.f1
    have HM := Lib.hid hmr
    have hmb : m ≤ more1 + 1 := by omega
    clear hk hL hA hmr HL H hz HLD hlo hhi
    by_cases hr : 0 < r
    · obtain ⟨r, rfl⟩ : ∃ r', r = r' + 1 := ⟨r - 1, by omega⟩
      have hlt : (m : Int) < (more1 : Int) + 1 := by have := HM.out; omega
      by_cases hj : i + 1 + m < s.size
      · by_cases hin : lo ≤ s[i + 1 + m].toNat ∧ s[i + 1 + m].toNat ≤ hi2
        · have g1 : ¬ (s[i + 1 + m].toNat : Int) < (lo : Int) := by omega
          have g2 : ¬ (hi2 : Int) < (s[i + 1 + m].toNat : Int) := by omega
          have HIN := Lib.hid hin
          clear hin
          go_wp2_with fail
          refine (here_some bp s (i + 1 + m) d _ (by exact HA.out) hj).mono ?_
          rintro e w' ⟨rfl, n2, rfl⟩
          go_wp2_with fail
          go_roundg r
          case measure => rw [HK.out]; omega
          case rel =>
            refine ⟨m + 1, 128, 191, r, rfl, by have := HM.out; omega, by omega, by omega, rfl, rfl, by go_num, by omega, ?_, ?_, by with_reducible repeat (first | assumption | apply Kept.drewN | apply Kept.set | exact Kept.refl _ _)⟩
            · exact HLL.out.step (by omega) (L_get hj) HIN.out.1 HIN.out.2
            · exact (HA.out.drewN _).set1 (i + 1 + m + 1)
        · have hno : ∀ c, (L s)[i + 1 + m]? = some c → ¬ (lo ≤ c.toNat ∧ c.toNat ≤ hi2) := by
            intro c hc; rw [L_get hj] at hc; cases hc; exact hin
          have HNO := Lib.hid hno
          clear hno
          by_cases g1 : (s[i + 1 + m].toNat : Int) < (lo : Int)
          · clear hin
            go_wp2_with fail
            refine (here_some bp s (i + 1 + m) d _ (by exact HA.out) hj).mono ?_
            rintro e w' ⟨rfl, n2, rfl⟩
            go_wp2_with fail
            refine (fail_any bp s (i + 1 + m) d 40 _ (by exact HA.out)).mono ?_
            rintro e w' ⟨rfl, rfl⟩
            go_wp2_with fail
            exact ⟨rfl, .inr ⟨i + 1 + m, by omega, ⟨rfl, by with_reducible repeat (first | assumption | apply Kept.drewN | apply Kept.set | exact Kept.refl _ _)⟩, HLL.out.fault HNO.out⟩⟩
          · have g2 : (hi2 : Int) < (s[i + 1 + m].toNat : Int) := by omega
            clear hin
            go_wp2_with fail
            refine (here_some bp s (i + 1 + m) d _ (by exact HA.out) hj).mono ?_
            rintro e w' ⟨rfl, n2, rfl⟩
            go_wp2_with fail
            refine (fail_any bp s (i + 1 + m) d 40 _ (by exact HA.out)).mono ?_
            rintro e w' ⟨rfl, rfl⟩
            go_wp2_with fail
            exact ⟨rfl, .inr ⟨i + 1 + m, by omega, ⟨rfl, by with_reducible repeat (first | assumption | apply Kept.drewN | apply Kept.set | exact Kept.refl _ _)⟩, HLL.out.fault HNO.out⟩⟩
      · have hje : i + 1 + m = s.size := by omega
        have hA' : At wr bp s s.size d := by rw [← hje]; exact HA.out
        have HA' := Lib.hid hA'
        have HJE := Lib.hid hje
        clear hje hA'
        go_wp2_with fail
        refine (here_end bp s d _ (by exact HA'.out)).mono ?_
        rintro e w' ⟨rfl, n2, rfl⟩
        go_wp2_with fail
        refine ⟨rfl, .inr ⟨s.size, by omega, ⟨rfl, by with_reducible repeat (first | assumption | apply Kept.drewN | apply Kept.set | exact Kept.refl _ _)⟩, ?_⟩⟩
        rw [← HJE.out]
        exact HLL.out.fault (fun c hc => by rw [L_end (Nat.le_of_not_lt hj)] at hc; cases hc)
    · obtain rfl : r = 0 := by omega
      have hge : ¬ (m : Int) < (more1 : Int) + 1 := by have := HM.out; omega
      go_wp2_with fail
      go_end0
      exact .inl ⟨i + 1 + m, lo, hi2, by omega, hms, ⟨rfl, HA.out, hK⟩, HLL.out⟩

theorem letter_any (bp : Nat) (s : ByteArray) (i d : Nat) (w : World) (h : At w bp s i d) (hi : i < s.size) (hs : s.size ≤ 4000) (hp : Plainly s[i]) :
    Calls Tryz.prog 41 #[.pointer (some ⟨bp, 0, none⟩)] w (LetterPost bp s w i d) := by
  by_cases hc : s[i].toNat < 128
  · exact (letter_ascii bp s i d w h hi hs hc).mono fun e w' hw => .inl ⟨i + 1, 0, 0, by omega, by omega, hw, LetAt.ascii (L_get hi) hp hc 0 0⟩
  · cases hl : lead s[i] with
    | none => exact (letter_none bp s i d w h hi (by omega) hl).mono fun e w' hw => .inr ⟨i, by omega, hw, let_nolead (L_get hi) hp (by omega) hl⟩
    | some x => obtain ⟨lo, hi', more⟩ := x; exact letter_lead bp s i d w h hi hs (by omega) lo hi' more hl hp

#print axioms letter_any

end Jot
end Go.Proofs.YthgcnmdnjfajbaaGreatDoor
