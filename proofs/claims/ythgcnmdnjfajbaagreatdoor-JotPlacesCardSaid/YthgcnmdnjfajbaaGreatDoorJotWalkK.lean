/- Walks of package jot: empty, more. Conditions: a parser that stands in its text. -/
import Derived.Test.YthgcnmdnjfajbaaGreatDoorJotWalkE
namespace Go.Proofs.YthgcnmdnjfajbaaGreatDoor
open Go.RowKit
namespace Jot

def EmptyPost (bp : Nat) (s : ByteArray) (w : World) (i d : Nat) (c : Int) (e : Ending) (w' : World) : Prop :=
  (∃ b, (L s)[i]? = some b ∧ (b.toNat : Int) = c ∧ Went bp s w (.bool true) (i + 1) d e w') ∨
  (∃ b, (L s)[i]? = some b ∧ (b.toNat : Int) ≠ c ∧ Went bp s w (.bool false) i (d + 1) e w') ∨
  (i = s.size ∧ Gave bp w 40 i e w')

set_option maxRecDepth 100000 in
set_option maxHeartbeats 1000000 in
theorem empty_any (bp : Nat) (s : ByteArray) (i d : Nat) (c : Int) (w : World) (h : At w bp s i (d + 1)) (hi : i ≤ s.size) (hs : s.size ≤ 4000) (hd : d ≤ 16) :
    Calls Tryz.prog 43 #[.pointer (some ⟨bp, 0, none⟩), .int .u8 c] w (EmptyPost bp s w i d c) := by
  have H := Lib.hid h
  have c1 := h.c1
  have f1 := h.f1
  have c2 := h.c2
  have f2 := h.f2
  have HD := Lib.hid ((h.set1 (i + 1)).set2 d)
  have ed : ((d + 1 : Nat) : Int) - 1 = (d : Int) := by omega
  by_cases hl : i < s.size
  · by_cases hc : (s[i].toNat : Int) = c
    · have hb : ((s[i].toNat : Int) != c) = false := by simp [hc]
      have HC := Lib.hid hc
      clear h hc
      go_enter Tryz.func43, Tryz.ntmps43
      go_wp2_with fail
      refine (here_some bp s i (d + 1) _ (by exact H.out) hl).mono ?_
      rintro e w' ⟨rfl, n1, rfl⟩
      go_wp2_with fail
      go_ret
      refine .inl ⟨_, L_get hl, HC.out, rfl, ?_, by with_reducible repeat (first | assumption | apply Kept.drewN | apply Kept.set | exact Kept.refl _ _)⟩
      exact ((H.out.drewN n1).set1 (i + 1)).set2 d
    · have hb : ((s[i].toNat : Int) != c) = true := by simp [hc]
      have HC := Lib.hid hc
      clear h hc
      go_enter Tryz.func43, Tryz.ntmps43
      go_wp2_with fail
      refine (here_some bp s i (d + 1) _ (by exact H.out) hl).mono ?_
      rintro e w' ⟨rfl, n1, rfl⟩
      go_wp2_with fail
      go_ret
      exact .inr (.inl ⟨_, L_get hl, HC.out, rfl, H.out, by with_reducible repeat (first | assumption | apply Kept.drewN | apply Kept.set | exact Kept.refl _ _)⟩)
  · obtain rfl : i = s.size := by omega
    clear h
    go_enter Tryz.func43, Tryz.ntmps43
    go_wp2_with fail
    refine (here_end bp s (d + 1) _ (by exact H.out)).mono ?_
    rintro e w' ⟨rfl, n1, rfl⟩
    go_wp2_with fail
    exact ⟨rfl, .inr (.inr ⟨rfl, rfl, by with_reducible repeat (first | assumption | apply Kept.drewN | apply Kept.set | exact Kept.refl _ _)⟩)⟩

def MorePost (bp : Nat) (s : ByteArray) (w : World) (i d : Nat) (c : Int) (e : Ending) (w' : World) : Prop :=
  ∃ j, Blanks s i j ∧
    (((L s)[j]? = some 44 ∧ Went bp s w (.bool true) (j + 1) (d + 1) e w') ∨
    (∃ b, (L s)[j]? = some b ∧ b ≠ 44 ∧ (b.toNat : Int) = c ∧ Went bp s w (.bool false) (j + 1) d e w') ∨
    ((∀ b, (L s)[j]? = some b → b ≠ 44 ∧ (b.toNat : Int) ≠ c) ∧ Gave bp w 40 j e w'))

set_option maxRecDepth 100000 in
set_option maxHeartbeats 1000000 in
theorem more_any (bp : Nat) (s : ByteArray) (i d : Nat) (c : Int) (w : World) (h : At w bp s i (d + 1)) (hi : i ≤ s.size) (hs : s.size ≤ 4000) (hd : d ≤ 16) :
    Calls Tryz.prog 44 #[.pointer (some ⟨bp, 0, none⟩), .int .u8 c] w (MorePost bp s w i d c) := by
  have H := Lib.hid h
  have HB := Lib.hid (blanks_any bp s i (d + 1) w h hi hs)
  have ed : ((d + 1 : Nat) : Int) - 1 = (d : Int) := by omega
  clear h
  go_enter Tryz.func44, Tryz.ntmps44
  go_wp2_with fail
  refine (HB.out).mono ?_
  rintro e w1 ⟨j, hj, rfl, A1, K1⟩
  have hjs := hj.2.1
  have HJ := Lib.hid hj
  have HA := Lib.hid A1
  have c1 := A1.c1
  have f1 := A1.f1
  have c2 := A1.c2
  have f2 := A1.f2
  clear hj A1
  by_cases hl : j < s.size
  · by_cases h44 : s[j].toNat = 44
    · have b1 : ((s[j].toNat : Int) == 44) = true := by simp [h44]
      go_wp2_with fail
      refine (here_some bp s j (d + 1) _ (by exact HA.out) hl).mono ?_
      rintro e w' ⟨rfl, n1, rfl⟩
      go_wp2_with fail
      go_ret
      refine ⟨j, HJ.out, .inl ⟨?_, rfl, (HA.out.drewN n1).set1 (j + 1), by with_reducible repeat (first | assumption | apply Kept.drewN | apply Kept.set | exact Kept.refl _ _)⟩⟩
      rw [L_get hl]; exact congrArg some (UInt8.toNat_inj.1 h44)
    · have b1 : ((s[j].toNat : Int) == 44) = false := by simp; omega
      have n44 : s[j] ≠ 44 := fun e => h44 (by rw [e]; rfl)
      by_cases hc : (s[j].toNat : Int) = c
      · have b2 : ((s[j].toNat : Int) == c) = true := by simp [hc]
        have HC := Lib.hid hc
        clear hc n44
        go_wp2_with fail
        refine (here_some bp s j (d + 1) _ (by exact HA.out) hl).mono ?_
        rintro e w' ⟨rfl, n1, rfl⟩
        go_wp2_with fail
        go_ret
        exact ⟨j, HJ.out, .inr (.inl ⟨_, L_get hl, fun e => h44 (by rw [e]; rfl), HC.out, rfl, ((HA.out.drewN n1).set1 (j + 1)).set2 d, by with_reducible repeat (first | assumption | apply Kept.drewN | apply Kept.set | exact Kept.refl _ _)⟩)⟩
      · have b2 : ((s[j].toNat : Int) == c) = false := by simp [hc]
        have HC := Lib.hid hc
        clear hc n44
        go_wp2_with fail
        refine (here_some bp s j (d + 1) _ (by exact HA.out) hl).mono ?_
        rintro e w' ⟨rfl, n1, rfl⟩
        go_wp2_with fail
        refine (fail_any bp s j (d + 1) 40 _ (by exact HA.out)).mono ?_
        rintro e w' ⟨rfl, rfl⟩
        go_wp2_with fail
        refine ⟨rfl, j, HJ.out, .inr (.inr ⟨fun b hb => ?_, rfl, by with_reducible repeat (first | assumption | apply Kept.drewN | apply Kept.set | exact Kept.refl _ _)⟩)⟩
        rw [L_get hl] at hb; cases hb
        exact ⟨fun e => h44 (by rw [e]; rfl), HC.out⟩
  · have hje : j = s.size := by omega
    have hA' : At w1 bp s s.size (d + 1) := by rw [← hje]; exact HA.out
    have HA' := Lib.hid hA'
    have HJE := Lib.hid hje
    clear hje hA'
    go_wp2_with fail
    refine (here_end bp s (d + 1) _ (by exact HA'.out)).mono ?_
    rintro e w2 ⟨rfl, n2, rfl⟩
    go_wp2_with fail
    refine ⟨rfl, j, HJ.out, .inr (.inr ⟨fun b hb => ?_, ?_, by with_reducible repeat (first | assumption | apply Kept.drewN | apply Kept.set | exact Kept.refl _ _)⟩)⟩
    · rw [L_end (by omega)] at hb; cases hb
    · rw [HJE.out]; rfl

end Jot
end Go.Proofs.YthgcnmdnjfajbaaGreatDoor
