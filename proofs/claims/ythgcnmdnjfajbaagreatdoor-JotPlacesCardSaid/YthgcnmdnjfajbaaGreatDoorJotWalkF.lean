/- Walk of package jot: number. Conditions: a parser that stands in its text. -/
import Derived.Test.YthgcnmdnjfajbaaGreatDoorJotWalkE
import Derived.Test.YthgcnmdnjfajbaaGreatDoorJotPlain
namespace Go.Proofs.YthgcnmdnjfajbaaGreatDoor
open Go.RowKit
namespace Jot

/-- What number comes to from i on, behind the sign: a number, or a fault. -/
def DigitsPost (bp : Nat) (s : ByteArray) (w : World) (i d : Nat) (neg : Bool) (e : Ending) (w' : World) : Prop :=
  (∃ (v : Int) (j : Nat), i < j ∧ j ≤ s.size ∧ Went bp s w (.iface 72 (.int .i64 v)) j d e w' ∧ ∀ k, R (L s) i (num0 neg k) = R (L s) j ⟨.after (.num v), k⟩) ∨
  (∃ k p, Gave bp w k p e w' ∧ p ≤ s.size ∧ ∀ K, R (L s) i (num0 neg K) = .bad k p)

def NumPost (bp : Nat) (s : ByteArray) (w : World) (i d : Nat) (e : Ending) (w' : World) : Prop :=
  (∃ (v : Int) (j : Nat), i < j ∧ j ≤ s.size ∧ Went bp s w (.iface 72 (.int .i64 v)) j d e w' ∧ ∀ k, R (L s) i ⟨.val, k⟩ = R (L s) j ⟨.after (.num v), k⟩) ∨
  (∃ k p, Gave bp w k p e w' ∧ p ≤ s.size ∧ ∀ K, R (L s) i ⟨.val, K⟩ = .bad k p)

set_option maxRecDepth 100000 in
set_option maxHeartbeats 1000000 in
theorem number_digits (bp : Nat) (s : ByteArray) (i d : Nat) (w : World) (h : At w bp s i d) (hi : i < s.size) (hs : s.size ≤ 4000)
    (h45 : s[i].toNat ≠ 45) (h48 : s[i].toNat ≠ 48) (hdig : isDigit s[i] = true) :
    Calls Tryz.prog 26 #[.pointer (some ⟨bp, 0, none⟩)] w (DigitsPost bp s w i d false) := by
  have HH := Lib.hid (fun n => here_some bp s i d (w.drewN n) h hi)
  have HD := Lib.hid (fun n => digit_any bp s i d (w.drewN n) h)
  have e1 : ((s[i].toNat : Int) == 45) = false := by simp; omega
  have e2 : ((s[i].toNat : Int) == 48) = false := by simp; omega
  have hda : digitAt s i = true := by simp only [digitAt, L_get hi]; exact hdig
  have c0 := h.c0
  have c1 := h.c1
  have hi' : (i : Int) < s.size := by omega
  have H := Lib.hid h
  have h48' : (L s)[i]? ≠ some 48 := by rw [L_get hi]; intro e; rw [Option.some.inj e] at h48; exact h48 rfl
  have H48 := Lib.hid h48'
  clear h h45 h48 h48'
  go_enter Tryz.func26, Tryz.ntmps26
  go_wp2_with fail
  refine (HH.out 0).mono ?_
  rintro e w' ⟨rfl, n1, rfl⟩
  go_wp2_with fail
  refine (here_some bp s i d _ (by exact H.out) hi).mono ?_
  rintro e w' ⟨rfl, n2, rfl⟩
  go_wp2_with fail
  refine (digit_any bp s i d _ (by exact H.out)).mono ?_
  rintro e w' ⟨rfl, n3, rfl⟩
  go_wp2_with fail
  go_quiet (fail)
  go_wp2_with fail
  go_loopg [4] (s.size - i) (fun k v wr => ∃ j n : Nat, k = s.size - j ∧ v = .int .i64 n ∧ i ≤ j ∧ j ≤ s.size ∧ NumAt (L s) i false j n ∧ At wr bp s j d ∧ Kept bp w wr)
  case atStart => exact ⟨i, 0, rfl, rfl, Nat.le_refl _, by omega, NumAt.start false H48.out, H.out, (by with_reducible repeat (first | assumption | apply Kept.drewN | apply Kept.set | exact Kept.refl _ _))⟩
  case round =>
    obtain ⟨j, n, hk, rfl, hij, hjs, hN, hA, hK⟩ := hrel
    have HK := Lib.hid hk
    have HN := Lib.hid hN
    have HA := Lib.hid hA
    have hn := hN.1
    unfold maxNumber at hn
    have c0 := hA.c0
    have c1 := hA.c1
    have f1 := hA.f1
    clear hk hN hA
    by_cases hdj : digitAt s j = true
    · have hjl : j < s.size := by
        by_cases hl : j < s.size
        · exact hl
        · simp only [digitAt, L_end (Nat.le_of_not_lt hl)] at hdj; cases hdj
      have hdg : isDigit s[j] = true := by simpa only [digitAt, L_get hjl] using hdj
      have hdd := hdg
      rw [isDigit_nat] at hdd
      simp only [Bool.and_eq_true, decide_eq_true_eq] at hdd
      have hjl' : (j : Int) < s.size := by omega
      have b0 : (48 : Int) ≤ (s[j].toNat : Int) := by omega
      have b9 : (s[j].toNat : Int) ≤ 57 := by omega
      have HDG := Lib.hid hdg
      clear hdg hdd
      by_cases hov : 10 * n + dig s[j] ≤ maxNumber
      · have hov' : ¬ (9007199254740991 : Int) < 10 * (n : Int) + ((s[j].toNat : Int) - 48) := by unfold maxNumber dig at hov; omega
        go_wp2_with fail
        refine (digit_any bp s j d _ (by exact HA.out)).mono ?_
        rintro e w' ⟨rfl, n4, rfl⟩
        go_wp2_with fail
        go_quiet (fail)
        go_wp2_with fail
        go_roundg (s.size - (j + 1))
        case measure => rw [HK.out]; omega
        case rel =>
          refine ⟨j + 1, 10 * n + dig s[j], rfl, ?_, by omega, by omega, HN.out.step (L_get hjl) HDG.out hov, (HA.out.drewN _).set1 (j + 1), by with_reducible repeat (first | assumption | apply Kept.drewN | apply Kept.set | exact Kept.refl _ _)⟩
          refine congrArg (Value.int .i64) ?_
          unfold dig; omega
      · have hov' : (9007199254740991 : Int) < 10 * (n : Int) + ((s[j].toNat : Int) - 48) := by unfold maxNumber dig at hov; omega
        go_wp2_with fail
        refine (digit_any bp s j d _ (by exact HA.out)).mono ?_
        rintro e w' ⟨rfl, n4, rfl⟩
        go_wp2_with fail
        go_quiet (fail)
        go_wp2_with fail
        refine (fail_any bp s j d 43 _ (by exact HA.out)).mono ?_
        rintro e w' ⟨rfl, rfl⟩
        go_wp2_with fail
        refine ⟨rfl, .inr ⟨43, j, ⟨rfl, by with_reducible repeat (first | assumption | apply Kept.drewN | apply Kept.set | exact Kept.refl _ _)⟩, hjs, fun k => HN.out.over (L_get hjl) HDG.out (by omega) k⟩⟩
    · rw [Bool.not_eq_true] at hdj
      go_wp2_with fail
      refine (digit_any bp s j d _ (by exact HA.out)).mono ?_
      rintro e w' ⟨rfl, n4, rfl⟩
      go_wp2_with fail
      go_ret
      have hlt : i < j := by
        by_cases hlt : i < j
        · exact hlt
        · obtain rfl : i = j := by omega
          rw [hda] at hdj; cases hdj
      refine .inl ⟨_, j, hlt, hjs, ⟨rfl, HA.out.drewN _, by with_reducible repeat (first | assumption | apply Kept.drewN | apply Kept.set | exact Kept.refl _ _)⟩, fun k => ?_⟩
      refine (HN.out.stop hlt (fun c hc => ?_) k).trans ?_
      · simpa only [digitAt, hc] using hdj
      · simp [signed]

set_option maxRecDepth 100000 in
set_option maxHeartbeats 1000000 in
theorem number_negs (bp : Nat) (s : ByteArray) (i0 d : Nat) (w : World) (h : At w bp s i0 d) (hi0 : i0 < s.size) (hs : s.size ≤ 4000)
    (h45 : s[i0].toNat = 45) (i : Nat) (hi1 : i0 + 1 = i) (hi : i < s.size) (h48 : s[i].toNat ≠ 48) (hdig : isDigit s[i] = true) :
    Calls Tryz.prog 26 #[.pointer (some ⟨bp, 0, none⟩)] w (DigitsPost bp s w i d true) := by
  have hA1 := h.set1 i
  have HA1 := Lib.hid hA1
  have e1 : ((s[i0].toNat : Int) == 45) = true := by simp [h45]
  have ei : (i0 : Int) + 1 = (i : Int) := by omega
  have f1 := h.f1
  have e2 : ((s[i].toNat : Int) == 48) = false := by simp; omega
  have hda : digitAt s i = true := by simp only [digitAt, L_get hi]; exact hdig
  have c0 := h.c0
  have c1 := h.c1
  have hi' : (i : Int) < s.size := by omega
  have H := Lib.hid h
  clear hA1 hi1
  have h48' : (L s)[i]? ≠ some 48 := by rw [L_get hi]; intro e; rw [Option.some.inj e] at h48; exact h48 rfl
  have H48 := Lib.hid h48'
  clear h h45 h48 h48'
  go_enter Tryz.func26, Tryz.ntmps26
  go_wp2_with fail
  refine (here_some bp s i0 d _ (by exact H.out) hi0).mono ?_
  rintro e w' ⟨rfl, n1, rfl⟩
  go_wp2_with fail
  refine (here_some bp s i d _ (by exact HA1.out) hi).mono ?_
  rintro e w' ⟨rfl, n2, rfl⟩
  go_wp2_with fail
  refine (digit_any bp s i d _ (by exact HA1.out)).mono ?_
  rintro e w' ⟨rfl, n3, rfl⟩
  go_wp2_with fail
  go_quiet (fail)
  go_wp2_with fail
  go_loopg [4] (s.size - i) (fun k v wr => ∃ j n : Nat, k = s.size - j ∧ v = .int .i64 n ∧ i ≤ j ∧ j ≤ s.size ∧ NumAt (L s) i true j n ∧ At wr bp s j d ∧ Kept bp w wr)
  case atStart => exact ⟨i, 0, rfl, rfl, Nat.le_refl _, by omega, NumAt.start true H48.out, HA1.out, (by with_reducible repeat (first | assumption | apply Kept.drewN | apply Kept.set | exact Kept.refl _ _))⟩
  case round =>
    obtain ⟨j, n, hk, rfl, hij, hjs, hN, hA, hK⟩ := hrel
    have HK := Lib.hid hk
    have HN := Lib.hid hN
    have HA := Lib.hid hA
    have hn := hN.1
    unfold maxNumber at hn
    have c0 := hA.c0
    have c1 := hA.c1
    have f1 := hA.f1
    clear hk hN hA
    by_cases hdj : digitAt s j = true
    · have hjl : j < s.size := by
        by_cases hl : j < s.size
        · exact hl
        · simp only [digitAt, L_end (Nat.le_of_not_lt hl)] at hdj; cases hdj
      have hdg : isDigit s[j] = true := by simpa only [digitAt, L_get hjl] using hdj
      have hdd := hdg
      rw [isDigit_nat] at hdd
      simp only [Bool.and_eq_true, decide_eq_true_eq] at hdd
      have hjl' : (j : Int) < s.size := by omega
      have b0 : (48 : Int) ≤ (s[j].toNat : Int) := by omega
      have b9 : (s[j].toNat : Int) ≤ 57 := by omega
      have HDG := Lib.hid hdg
      clear hdg hdd
      by_cases hov : 10 * n + dig s[j] ≤ maxNumber
      · have hov' : ¬ (9007199254740991 : Int) < 10 * (n : Int) + ((s[j].toNat : Int) - 48) := by unfold maxNumber dig at hov; omega
        go_wp2_with fail
        refine (digit_any bp s j d _ (by exact HA.out)).mono ?_
        rintro e w' ⟨rfl, n4, rfl⟩
        go_wp2_with fail
        go_quiet (fail)
        go_wp2_with fail
        go_roundg (s.size - (j + 1))
        case measure => rw [HK.out]; omega
        case rel =>
          refine ⟨j + 1, 10 * n + dig s[j], rfl, ?_, by omega, by omega, HN.out.step (L_get hjl) HDG.out hov, (HA.out.drewN _).set1 (j + 1), by with_reducible repeat (first | assumption | apply Kept.drewN | apply Kept.set | exact Kept.refl _ _)⟩
          refine congrArg (Value.int .i64) ?_
          unfold dig; omega
      · have hov' : (9007199254740991 : Int) < 10 * (n : Int) + ((s[j].toNat : Int) - 48) := by unfold maxNumber dig at hov; omega
        go_wp2_with fail
        refine (digit_any bp s j d _ (by exact HA.out)).mono ?_
        rintro e w' ⟨rfl, n4, rfl⟩
        go_wp2_with fail
        go_quiet (fail)
        go_wp2_with fail
        refine (fail_any bp s j d 43 _ (by exact HA.out)).mono ?_
        rintro e w' ⟨rfl, rfl⟩
        go_wp2_with fail
        refine ⟨rfl, .inr ⟨43, j, ⟨rfl, by with_reducible repeat (first | assumption | apply Kept.drewN | apply Kept.set | exact Kept.refl _ _)⟩, hjs, fun k => HN.out.over (L_get hjl) HDG.out (by omega) k⟩⟩
    · rw [Bool.not_eq_true] at hdj
      go_wp2_with fail
      refine (digit_any bp s j d _ (by exact HA.out)).mono ?_
      rintro e w' ⟨rfl, n4, rfl⟩
      go_wp2_with fail
      go_ret
      have hlt : i < j := by
        by_cases hlt : i < j
        · exact hlt
        · obtain rfl : i = j := by omega
          rw [hda] at hdj; cases hdj
      refine .inl ⟨_, j, hlt, hjs, ⟨rfl, HA.out.drewN _, by with_reducible repeat (first | assumption | apply Kept.drewN | apply Kept.set | exact Kept.refl _ _)⟩, fun k => ?_⟩
      refine (HN.out.stop hlt (fun c hc => ?_) k).trans ?_
      · simpa only [digitAt, hc] using hdj
      · simp [signed]

set_option maxRecDepth 100000 in
set_option maxHeartbeats 1000000 in
theorem number_zero (bp : Nat) (s : ByteArray) (i d : Nat) (w : World) (h : At w bp s i d) (hi : i < s.size) (hs : s.size ≤ 4000) (h48 : s[i].toNat = 48) :
    Calls Tryz.prog 26 #[.pointer (some ⟨bp, 0, none⟩)] w (Went bp s w (.iface 72 (.int .i64 0)) (i + 1) d) := by
  have e1 : ((s[i].toNat : Int) == 45) = false := by simp [h48]
  have e2 : ((s[i].toNat : Int) == 48) = true := by simp [h48]
  have hda : digitAt s i = true := by simp only [digitAt, L_get hi, isDigit_nat, h48]; rfl
  have c0 := h.c0
  have c1 := h.c1
  have f1 := h.f1
  have hi' : (i : Int) < s.size := by omega
  have H := Lib.hid h
  clear h h48
  go_enter Tryz.func26, Tryz.ntmps26
  go_wp2_with fail
  refine (here_some bp s i d _ (by exact H.out) hi).mono ?_
  rintro e w' ⟨rfl, n1, rfl⟩
  go_wp2_with fail
  refine (here_some bp s i d _ (by exact H.out) hi).mono ?_
  rintro e w' ⟨rfl, n2, rfl⟩
  go_wp2_with fail
  refine (digit_any bp s i d _ (by exact H.out)).mono ?_
  rintro e w' ⟨rfl, n3, rfl⟩
  go_wp2_with fail
  go_quiet (fail)
  go_wp2_with fail
  go_ret
  exact ⟨rfl, (H.out.drewN _).set1 (i + 1), by with_reducible repeat (first | assumption | apply Kept.drewN | apply Kept.set | exact Kept.refl _ _)⟩

set_option maxRecDepth 100000 in
set_option maxHeartbeats 1000000 in
theorem number_negzero (bp : Nat) (s : ByteArray) (i0 d : Nat) (w : World) (h : At w bp s i0 d) (hi0 : i0 < s.size) (hs : s.size ≤ 4000)
    (h45 : s[i0].toNat = 45) (i : Nat) (hi1 : i0 + 1 = i) (hi : i < s.size) (h48 : s[i].toNat = 48) :
    Calls Tryz.prog 26 #[.pointer (some ⟨bp, 0, none⟩)] w (Went bp s w (.iface 72 (.int .i64 0)) (i + 1) d) := by
  have hA1 := h.set1 i
  have HA1 := Lib.hid hA1
  have e1 : ((s[i0].toNat : Int) == 45) = true := by simp [h45]
  have ei : (i0 : Int) + 1 = (i : Int) := by omega
  have e2 : ((s[i].toNat : Int) == 48) = true := by simp [h48]
  have hda : digitAt s i = true := by simp only [digitAt, L_get hi, isDigit_nat, h48]; rfl
  have c0 := h.c0
  have c1 := h.c1
  have f1 := h.f1
  have hi' : (i : Int) < s.size := by omega
  have H := Lib.hid h
  clear h h48 h45 hA1 hi1
  go_enter Tryz.func26, Tryz.ntmps26
  go_wp2_with fail
  refine (here_some bp s i0 d _ (by exact H.out) hi0).mono ?_
  rintro e w' ⟨rfl, n1, rfl⟩
  go_wp2_with fail
  refine (here_some bp s i d _ (by exact HA1.out) hi).mono ?_
  rintro e w' ⟨rfl, n2, rfl⟩
  go_wp2_with fail
  refine (digit_any bp s i d _ (by exact HA1.out)).mono ?_
  rintro e w' ⟨rfl, n3, rfl⟩
  go_wp2_with fail
  go_quiet (fail)
  go_wp2_with fail
  go_ret
  have hfin := At.set1 (HA1.out.drewN 0) (i + 1)
  exact ⟨rfl, by exact hfin, by with_reducible repeat (first | assumption | apply Kept.drewN | apply Kept.set | exact Kept.refl _ _)⟩

set_option maxRecDepth 100000 in
set_option maxHeartbeats 1000000 in
theorem number_none (bp : Nat) (s : ByteArray) (i d : Nat) (w : World) (h : At w bp s i d) (hi : i < s.size)
    (h45 : s[i].toNat ≠ 45) (hda : digitAt s i = false) :
    Calls Tryz.prog 26 #[.pointer (some ⟨bp, 0, none⟩)] w (Gave bp w 40 i) := by
  have e1 : ((s[i].toNat : Int) == 45) = false := by simp; omega
  have H := Lib.hid h
  clear h h45
  go_enter Tryz.func26, Tryz.ntmps26
  go_wp2_with fail
  refine (here_some bp s i d _ (by exact H.out) hi).mono ?_
  rintro e w' ⟨rfl, n1, rfl⟩
  go_wp2_with fail
  refine (here_some bp s i d _ (by exact H.out) hi).mono ?_
  rintro e w' ⟨rfl, n2, rfl⟩
  go_wp2_with fail
  refine (digit_any bp s i d _ (by exact H.out)).mono ?_
  rintro e w' ⟨rfl, n3, rfl⟩
  go_wp2_with fail
  refine (fail_any bp s i d 40 _ (by exact H.out)).mono ?_
  rintro e w' ⟨rfl, rfl⟩
  go_wp2_with fail
  exact ⟨rfl, rfl, by with_reducible repeat (first | assumption | apply Kept.drewN | apply Kept.set | exact Kept.refl _ _)⟩

set_option maxRecDepth 100000 in
set_option maxHeartbeats 1000000 in
theorem number_negnone (bp : Nat) (s : ByteArray) (i0 d : Nat) (w : World) (h : At w bp s i0 d) (hi0 : i0 < s.size) (hs : s.size ≤ 4000)
    (h45 : s[i0].toNat = 45) (i : Nat) (hi1 : i0 + 1 = i) (hda : digitAt s i = false) :
    Calls Tryz.prog 26 #[.pointer (some ⟨bp, 0, none⟩)] w (Gave bp w 40 i) := by
  have hA1 := h.set1 i
  have HA1 := Lib.hid hA1
  have e1 : ((s[i0].toNat : Int) == 45) = true := by simp [h45]
  have ei : (i0 : Int) + 1 = (i : Int) := by omega
  have c0 := h.c0
  have c1 := h.c1
  have f1 := h.f1
  have H := Lib.hid h
  by_cases hi : i < s.size
  · clear h h45 hA1 hi1
    go_enter Tryz.func26, Tryz.ntmps26
    go_wp2_with fail
    refine (here_some bp s i0 d _ (by exact H.out) hi0).mono ?_
    rintro e w' ⟨rfl, n1, rfl⟩
    go_wp2_with fail
    refine (here_some bp s i d _ (by exact HA1.out) hi).mono ?_
    rintro e w' ⟨rfl, n2, rfl⟩
    go_wp2_with fail
    refine (digit_any bp s i d _ (by exact HA1.out)).mono ?_
    rintro e w' ⟨rfl, n3, rfl⟩
    go_wp2_with fail
    refine (fail_any bp s i d 40 _ (by exact HA1.out)).mono ?_
    rintro e w' ⟨rfl, rfl⟩
    go_wp2_with fail
    exact ⟨rfl, rfl, by with_reducible repeat (first | assumption | apply Kept.drewN | apply Kept.set | exact Kept.refl _ _)⟩
  · obtain rfl : i = s.size := by omega
    clear h h45 hA1 hi1
    go_enter Tryz.func26, Tryz.ntmps26
    go_wp2_with fail
    refine (here_some bp s i0 d _ (by exact H.out) hi0).mono ?_
    rintro e w' ⟨rfl, n1, rfl⟩
    go_wp2_with fail
    refine (here_end bp s d _ (by exact HA1.out)).mono ?_
    rintro e w' ⟨rfl, n2, rfl⟩
    go_wp2_with fail
    exact ⟨rfl, rfl, by with_reducible repeat (first | assumption | apply Kept.drewN | apply Kept.set | exact Kept.refl _ _)⟩

theorem num_neg (l : Bs) (i : Nat) (h : l[i]? = some 45) (k : List Fr) : R l i ⟨.val, k⟩ = R l (i + 1) (num0 true k) := by
  rw [R_go h (s' := ⟨.minus, k⟩)]
  · rfl
  · simp [δ, dVal, isBlank]

theorem num_zero (l : Bs) (i : Nat) (neg : Bool) (h : l[i]? = some 48) (k : List Fr) : R l i (num0 neg k) = R l (i + 1) ⟨.after (.num 0), k⟩ := by
  cases neg with
  | true => rw [R_go h (s' := ⟨.after (.num 0), k⟩)]; simp [num0, δ]
  | false => rw [R_go h (s' := ⟨.after (.num 0), k⟩)]; simp [num0, δ, dVal, isBlank]

/-- At this byte no value begins but a number. -/
def NumStart (c : UInt8) : Prop := isBlank c = false ∧ c ≠ 110 ∧ c ≠ 102 ∧ c ≠ 116 ∧ c ≠ 34 ∧ c ≠ 91 ∧ c ≠ 123

theorem num_none (l : Bs) (i : Nat) (neg : Bool) (hn : ∀ c, l[i]? = some c → isDigit c = false ∧ (neg = false → NumStart c ∧ c ≠ 45)) (_hl : i ≤ l.length) (k : List Fr) :
    R l i (num0 neg k) = .bad eForm i := by
  cases hc : l[i]? with
  | none =>
    have hle := List.getElem?_eq_none_iff.1 hc
    rw [R_end hle]
    cases neg <;> simp [num0, eof]
  | some c =>
    obtain ⟨hd, hs⟩ := hn c hc
    have h48 : c ≠ 48 := by rintro rfl; cases hd
    cases neg with
    | true => rw [R_bad hc (e := eForm)]; simp [num0, δ, h48, hd]
    | false =>
      obtain ⟨⟨h0, h1, h2, h3, h4, h5, h6⟩, h7⟩ := hs rfl
      rw [R_bad hc (e := eForm)]; simp [num0, δ, dVal, h0, h1, h2, h3, h4, h5, h6, h7, h48, hd]

theorem toNat_ne {a b : UInt8} (h : a ≠ b) : a.toNat ≠ b.toNat := fun e => h (UInt8.toNat_inj.1 e)

theorem number_any (bp : Nat) (s : ByteArray) (i d : Nat) (w : World) (h : At w bp s i d) (hi : i < s.size) (hs : s.size ≤ 4000) (hn : NumStart s[i]) :
    Calls Tryz.prog 26 #[.pointer (some ⟨bp, 0, none⟩)] w (NumPost bp s w i d) := by
  have hll := L_len s
  by_cases h45 : s[i] = 45
  · have e45 : s[i].toNat = 45 := by rw [h45]; rfl
    have hl45 : (L s)[i]? = some 45 := by rw [L_get hi, h45]
    by_cases hda : digitAt s (i + 1) = true
    · have hi1 : i + 1 < s.size := by
        by_cases hl : i + 1 < s.size
        · exact hl
        · simp only [digitAt, L_end (Nat.le_of_not_lt hl)] at hda; cases hda
      by_cases h48 : s[i + 1] = 48
      · refine (number_negzero bp s i d w h hi hs e45 (i + 1) rfl hi1 (by rw [h48]; rfl)).mono fun e w' hw => .inl ⟨0, i + 1 + 1, by omega, by omega, hw, fun k => ?_⟩
        rw [num_neg _ _ hl45, num_zero]
        rw [L_get hi1, h48]
      · have hdig : isDigit s[i + 1] = true := by simpa only [digitAt, L_get hi1] using hda
        refine (number_negs bp s i d w h hi hs e45 (i + 1) rfl hi1 (toNat_ne h48) hdig).mono fun e w' hw => ?_
        rcases hw with ⟨v, j, h1, h2, h3, h4⟩ | ⟨k, p, h1, h2, h3⟩
        · exact .inl ⟨v, j, by omega, h2, h3, fun k => by rw [num_neg _ _ hl45, h4]⟩
        · exact .inr ⟨k, p, h1, h2, fun k => by rw [num_neg _ _ hl45, h3]⟩
    · rw [Bool.not_eq_true] at hda
      refine (number_negnone bp s i d w h hi hs e45 (i + 1) rfl hda).mono fun e w' hw => .inr ⟨40, i + 1, hw, by omega, fun k => ?_⟩
      rw [num_neg _ _ hl45, num_none _ _ _ _ (by omega)]
      · rfl
      · intro c hc
        simp only [digitAt, hc] at hda
        exact ⟨hda, fun e => by cases e⟩
  · by_cases hda : digitAt s i = true
    · have hdig : isDigit s[i] = true := by simpa only [digitAt, L_get hi] using hda
      by_cases h48 : s[i] = 48
      · refine (number_zero bp s i d w h hi hs (by rw [h48]; rfl)).mono fun e w' hw => .inl ⟨0, i + 1, by omega, by omega, hw, fun k => ?_⟩
        exact num_zero _ _ false (by rw [L_get hi, h48]) k
      · refine (number_digits bp s i d w h hi hs (toNat_ne h45) (toNat_ne h48) hdig).mono fun e w' hw => ?_
        rcases hw with ⟨v, j, h1, h2, h3, h4⟩ | ⟨k, p, h1, h2, h3⟩
        · exact .inl ⟨v, j, h1, h2, h3, h4⟩
        · exact .inr ⟨k, p, h1, h2, h3⟩
    · rw [Bool.not_eq_true] at hda
      refine (number_none bp s i d w h hi (toNat_ne h45) hda).mono fun e w' hw => .inr ⟨40, i, hw, by omega, fun k => ?_⟩
      refine num_none _ _ false (fun c hc => ?_) (by omega) k
      rw [L_get hi] at hc
      cases hc
      simp only [digitAt, L_get hi] at hda
      exact ⟨hda, fun _ => ⟨hn, h45⟩⟩

#print axioms number_any

end Jot
end Go.Proofs.YthgcnmdnjfajbaaGreatDoor
