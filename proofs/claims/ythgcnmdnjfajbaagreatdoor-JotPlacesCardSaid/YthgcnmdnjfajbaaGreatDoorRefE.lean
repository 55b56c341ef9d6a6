/- Walks over the reference's reader: number. Conditions: a reader that stands where a number begins. -/
import Derived.Test.YthgcnmdnjfajbaaGreatDoorRefD
namespace Go.Proofs.YthgcnmdnjfajbaaGreatDoor
open Go.RowKit
namespace Jot

/-- What number comes to, behind the sign: a number, or a fault. -/
def RNum (bp : Nat) (s : ByteArray) (w : World) (i d : Nat) (neg : Bool) (e : Ending) (w' : World) : Prop :=
  (∃ (v : Int) (j : Nat), i < j ∧ j ≤ s.size ∧ RWent bp s w (.tuple #[.int .i64 v, .bool true]) j d e w' ∧ ∀ k, R (L s) i (num0 neg k) = R (L s) j ⟨.after (.num v), k⟩) ∨
  (∃ k p, p ≤ s.size ∧ RGave bp s w (.tuple #[.int .i64 0, .bool false]) k p e w' ∧ ∀ K, R (L s) i (num0 neg K) = .bad k p)

theorem digit_not {s : ByteArray} {j : Nat} (h : digitAt s j = false) : (∃ hj : j < s.size, s[j].toNat < 48) ∨ (∃ hj : j < s.size, 57 < s[j].toNat) ∨ s.size ≤ j := by
  by_cases hj : j < s.size
  · simp only [digitAt, L_get hj, isDigit_nat, Bool.and_eq_false_iff, decide_eq_false_iff_not] at h
    rcases h with h | h
    · exact .inl ⟨hj, by omega⟩
    · exact .inr (.inl ⟨hj, by omega⟩)
  · exact .inr (.inr (by omega))

set_option maxRecDepth 100000 in
set_option maxHeartbeats 1000000 in
theorem r_zero_pos (bp : Nat) (s : ByteArray) (i d : Nat) (w : World) (h : RAt w bp s i 0 d) (hs : s.size ≤ big) (hm : (L s)[i]? ≠ some 45) (hz : (L s)[i]? = some 48) :
    Calls Tryz.prog 54 #[.pointer (some ⟨bp, 0, none⟩)] w (RNum bp s w i d false) := by
  unfold big at hs
  have hi : i < s.size := by have := (List.getElem?_eq_some_iff.1 hz).1; rwa [L_len] at this
  have HZ' : Hid (∀ w', RAt w' bp s i 0 d → Calls Tryz.prog 69 #[.pointer (some ⟨bp, 0, none⟩), .int .u8 48] w' fun e w'' => e = .returned (.bool true) ∧ ∃ n, w'' = w'.drewN n) := fun w' h' => by
    have := r_is bp s i 0 d 48 w' h'
    rwa [show isAt s i 48 = true from decide_eq_true hz] at this
  have HN := Lib.hid (num_zero (L s) i false hz)
  have HM := r_is bp s i 0 d 45 w h
  rw [show isAt s i 45 = false from decide_eq_false hm] at HM
  have HM' := Lib.hid HM
  have H := Lib.hid h
  clear h hm HM
  have c1 := H.out.c1
  have f1 := H.out.f1
  clear hz
  go_enter Tryz.func54, Tryz.ntmps54
  go_wp2_with fail
  refine (HM'.out).mono ?_
  rintro e w1 ⟨rfl, n1, rfl⟩
  go_wp2_with fail
  refine (HZ'.out _ (by exact H.out)).mono ?_
  rintro e w2 ⟨rfl, n2, rfl⟩
  go_wp2_with fail
  go_ret2
  exact .inl ⟨0, i + 1, by omega, by omega, ⟨rfl, ((H.out.drewN n1).drewN n2).set1 (i + 1), by with_reducible repeat (first | assumption | apply Kept.drewN | apply Kept.set | exact Kept.refl _ _)⟩, HN.out⟩

set_option maxRecDepth 100000 in
set_option maxHeartbeats 1000000 in
theorem r_zero_neg (bp : Nat) (s : ByteArray) (i0 d : Nat) (w : World) (h : RAt w bp s i0 0 d) (hs : s.size ≤ big) (hm : (L s)[i0]? = some 45) (hz : (L s)[(i0 + 1)]? = some 48) :
    Calls Tryz.prog 54 #[.pointer (some ⟨bp, 0, none⟩)] w (RNum bp s w (i0 + 1) d true) := by
  unfold big at hs
  have hi : (i0 + 1) < s.size := by have := (List.getElem?_eq_some_iff.1 hz).1; rwa [L_len] at this
  have HZ' : Hid (∀ w', RAt w' bp s (i0 + 1) 0 d → Calls Tryz.prog 69 #[.pointer (some ⟨bp, 0, none⟩), .int .u8 48] w' fun e w'' => e = .returned (.bool true) ∧ ∃ n, w'' = w'.drewN n) := fun w' h' => by
    have := r_is bp s (i0 + 1) 0 d 48 w' h'
    rwa [show isAt s (i0 + 1) 48 = true from decide_eq_true hz] at this
  have HN := Lib.hid (num_zero (L s) (i0 + 1) true hz)
  have HM := r_is bp s i0 0 d 45 w h
  rw [show isAt s i0 45 = true from decide_eq_true hm] at HM
  have hi0 : i0 < s.size := by have := (List.getElem?_eq_some_iff.1 hm).1; rwa [L_len] at this
  have HM' := Lib.hid HM
  have c1 := h.c1
  have f1 := h.f1
  have H0 := Lib.hid h
  have H := Lib.hid (show ∀ n, RAt ((w.drewN n).setCell ⟨bp, 1, none⟩ (.int .i64 (i0 + 1 : Nat))) bp s (i0 + 1) 0 d from fun n => (h.drewN n).set1 (i0 + 1))
  clear h hm HM
  clear hz
  go_enter Tryz.func54, Tryz.ntmps54
  go_wp2_with fail
  refine (HM'.out).mono ?_
  rintro e w1 ⟨rfl, n1, rfl⟩
  go_wp2_with fail
  refine (HZ'.out _ (by exact H.out n1)).mono ?_
  rintro e w2 ⟨rfl, n2, rfl⟩
  go_wp2_with fail
  go_ret2
  exact .inl ⟨0, (i0 + 1) + 1, by omega, by omega, ⟨rfl, ((H.out n1).drewN n2).set1 (i0 + 1 + 1), by with_reducible repeat (first | assumption | apply Kept.drewN | apply Kept.set | exact Kept.refl _ _)⟩, HN.out⟩

set_option maxRecDepth 100000 in
set_option maxHeartbeats 2000000 in
theorem r_digits_pos (bp : Nat) (s : ByteArray) (i d : Nat) (w : World) (h : RAt w bp s i 0 d) (hs : s.size ≤ big) (hm : (L s)[i]? ≠ some 45) (hz : (L s)[i]? ≠ some 48) (hda : digitAt s i = true) :
    Calls Tryz.prog 54 #[.pointer (some ⟨bp, 0, none⟩)] w (RNum bp s w i d false) := by
  unfold big at hs
  have hil : i ≤ s.size := by
    by_cases hl : i < s.size
    · omega
    · simp only [digitAt, L_end (Nat.le_of_not_lt hl)] at hda; cases hda
  have HZ' : Hid (∀ w', RAt w' bp s i 0 d → Calls Tryz.prog 69 #[.pointer (some ⟨bp, 0, none⟩), .int .u8 48] w' fun e w'' => e = .returned (.bool false) ∧ ∃ n, w'' = w'.drewN n) := fun w' h' => by
    have := r_is bp s i 0 d 48 w' h'
    rwa [show isAt s i 48 = false from decide_eq_false hz] at this
  have H48 := Lib.hid hz
  have HDA := Lib.hid hda
  clear hda
  have HM := r_is bp s i 0 d 45 w h
  rw [show isAt s i 45 = false from decide_eq_false hm] at HM
  have HM' := Lib.hid HM
  have H := Lib.hid h
  clear h hm HM
  have c1 := H.out.c1
  have f1 := H.out.f1
  clear hz
  go_enter Tryz.func54, Tryz.ntmps54
  go_wp2_with fail
  refine (HM'.out).mono ?_
  rintro e w1 ⟨rfl, n1, rfl⟩
  go_wp2_with fail
  refine (HZ'.out _ (by exact H.out)).mono ?_
  rintro e w2 ⟨rfl, n2, rfl⟩
  go_wp2_with fail
  go_loopg [6] (s.size - i) (fun k v wr => ∃ j n : Nat, k = s.size - j ∧ v = .int .i64 n ∧ i ≤ j ∧ j ≤ s.size ∧ NumAt (L s) i false j n ∧ RAt wr bp s j 0 d ∧ Kept bp w wr)
  case atStart => exact ⟨i, 0, rfl, rfl, Nat.le_refl _, hil, NumAt.start false H48.out, (H.out.drewN n1).drewN n2, (by with_reducible repeat (first | assumption | apply Kept.drewN | apply Kept.set | exact Kept.refl _ _))⟩
  case round =>
    obtain ⟨j, n, hk, rfl, hij, hjs, hN, hA, hK⟩ := hrel
    have HK := Lib.hid hk
    have HN := Lib.hid hN
    have HA := Lib.hid hA
    have hn := hN.1
    unfold maxNumber at hn
    have c0 := hA.c0
    have c1 := hA.c1
    have f1 := hA.f1
    clear hk hN hA
    by_cases hdj : digitAt s j = true
    · have hjl : j < s.size := by
        by_cases hl : j < s.size
        · exact hl
        · simp only [digitAt, L_end (Nat.le_of_not_lt hl)] at hdj; cases hdj
      have hdg : isDigit s[j] = true := by simpa only [digitAt, L_get hjl] using hdj
      have hdd := hdg
      rw [isDigit_nat] at hdd
      simp only [Bool.and_eq_true, decide_eq_true_eq] at hdd
      have hjl' : (j : Int) < s.size := by omega
      have b0 : (48 : Int) ≤ (s[j].toNat : Int) := by omega
      have b9 : (s[j].toNat : Int) ≤ 57 := by omega
      have HDG := Lib.hid hdg
      clear hdg hdd hdj
      by_cases hov : 10 * n + dig s[j] ≤ maxNumber
      · have hov' : ¬ (9007199254740991 : Int) < 10 * (n : Int) + (s[j].toNat : Int) - 48 := by unfold maxNumber dig at hov; omega
        go_wp2_with fail
        go_quiet (fail)
        go_wp2_with fail
        go_quiet (fail)
        go_wp2_with fail
        go_roundg (s.size - (j + 1))
        case measure => rw [HK.out]; omega
        case rel =>
          refine ⟨j + 1, 10 * n + dig s[j], rfl, ?_, by omega, by omega, HN.out.step (L_get hjl) HDG.out hov, (HA.out.drewN _).set1 (j + 1), by with_reducible repeat (first | assumption | apply Kept.drewN | apply Kept.set | exact Kept.refl _ _)⟩
          refine congrArg (Value.int .i64) ?_
          unfold dig; omega
      · have hov' : (9007199254740991 : Int) < 10 * (n : Int) + (s[j].toNat : Int) - 48 := by unfold maxNumber dig at hov; omega
        go_wp2_with fail
        go_quiet (fail)
        go_wp2_with fail
        go_quiet (fail)
        go_wp2_with fail
        refine (r_wrong bp s j 0 d 43 _ (by exact HA.out)).mono ?_
        rintro e w5 ⟨rfl, ⟨d5, A5⟩, K5⟩
        have HA5 := Lib.hid A5
        clear A5
        go_wp2_with fail
        go_ret2
        exact .inr ⟨43, j, hjs, ⟨rfl, ⟨d5, HA5.out⟩, Kept.trans (by with_reducible repeat (first | assumption | apply Kept.drewN | apply Kept.set | exact Kept.refl _ _)) K5⟩, fun k => HN.out.over (L_get hjl) HDG.out (by omega) k⟩
    · rw [Bool.not_eq_true] at hdj
      have HDJ := Lib.hid hdj
      clear hdj
      by_cases hje : j = i
      · have t7 : ((j : Int) == ((i : Int))) = true := by simp; omega
        have HJE := Lib.hid hje
        clear hje
        rcases digit_not HDJ.out with ⟨hjl, b0⟩ | ⟨hjl, b9⟩ | hjl
        · have hjl' : (j : Int) < s.size := by omega
          have g0 : decide ((48 : Int) ≤ (s[j].toNat : Int)) = false := by simp; omega
          go_wp2_with fail
          go_quiet (fail)
          go_wp2_with fail
          refine (r_wrong bp s j 0 d 40 _ (by exact HA.out)).mono ?_
          rintro e w5 ⟨rfl, ⟨d5, A5⟩, K5⟩
          have HA5 := Lib.hid A5
          clear A5
          go_wp2_with fail
          go_ret2
          refine .inr ⟨40, j, hjs, ⟨rfl, ⟨d5, HA5.out⟩, Kept.trans (by with_reducible repeat (first | assumption | apply Kept.drewN | apply Kept.set | exact Kept.refl _ _)) K5⟩, fun K => ?_⟩
          rw [HJE.out]
          exact absurd (HDA.out) (by rw [← HJE.out, HDJ.out]; simp)
        · have hjl' : (j : Int) < s.size := by omega
          have g0 : (48 : Int) ≤ (s[j].toNat : Int) := by omega
          have g9 : decide ((s[j].toNat : Int) ≤ 57) = false := by simp; omega
          go_wp2_with fail
          go_quiet (fail)
          go_wp2_with fail
          refine (r_wrong bp s j 0 d 40 _ (by exact HA.out)).mono ?_
          rintro e w5 ⟨rfl, ⟨d5, A5⟩, K5⟩
          have HA5 := Lib.hid A5
          clear A5
          go_wp2_with fail
          go_ret2
          refine .inr ⟨40, j, hjs, ⟨rfl, ⟨d5, HA5.out⟩, Kept.trans (by with_reducible repeat (first | assumption | apply Kept.drewN | apply Kept.set | exact Kept.refl _ _)) K5⟩, fun K => ?_⟩
          rw [HJE.out]
          exact absurd (HDA.out) (by rw [← HJE.out, HDJ.out]; simp)
        · have hjl' : decide ((j : Int) < s.size) = false := by simp; omega
          have hnl : ¬ j < s.size := by omega
          go_wp2_with fail
          go_quiet (fail)
          go_wp2_with fail
          refine (r_wrong bp s j 0 d 40 _ (by exact HA.out)).mono ?_
          rintro e w5 ⟨rfl, ⟨d5, A5⟩, K5⟩
          have HA5 := Lib.hid A5
          clear A5
          go_wp2_with fail
          go_ret2
          refine .inr ⟨40, j, hjs, ⟨rfl, ⟨d5, HA5.out⟩, Kept.trans (by with_reducible repeat (first | assumption | apply Kept.drewN | apply Kept.set | exact Kept.refl _ _)) K5⟩, fun K => ?_⟩
          rw [HJE.out]
          exact absurd (HDA.out) (by rw [← HJE.out, HDJ.out]; simp)
      · have t7 : ((j : Int) == ((i : Int))) = false := by simp; omega
        have hlt : i < j := by omega
        clear hje
        rcases digit_not HDJ.out with ⟨hjl, b0⟩ | ⟨hjl, b9⟩ | hjl
        · have hjl' : (j : Int) < s.size := by omega
          have g0 : decide ((48 : Int) ≤ (s[j].toNat : Int)) = false := by simp; omega
          go_wp2_with fail
          go_quiet (fail)
          go_wp2_with fail
          go_ret2
          refine .inl ⟨signed false n, j, hlt, hjs, ⟨by simp [signed], HA.out.drewN _, by with_reducible repeat (first | assumption | apply Kept.drewN | apply Kept.set | exact Kept.refl _ _)⟩, fun k => ?_⟩
          exact HN.out.stop hlt (fun c hc => by simpa only [digitAt, hc] using HDJ.out) k
        · have hjl' : (j : Int) < s.size := by omega
          have g0 : (48 : Int) ≤ (s[j].toNat : Int) := by omega
          have g9 : decide ((s[j].toNat : Int) ≤ 57) = false := by simp; omega
          go_wp2_with fail
          go_quiet (fail)
          go_wp2_with fail
          go_ret2
          refine .inl ⟨signed false n, j, hlt, hjs, ⟨by simp [signed], HA.out.drewN _, by with_reducible repeat (first | assumption | apply Kept.drewN | apply Kept.set | exact Kept.refl _ _)⟩, fun k => ?_⟩
          exact HN.out.stop hlt (fun c hc => by simpa only [digitAt, hc] using HDJ.out) k
        · have hjl' : decide ((j : Int) < s.size) = false := by simp; omega
          have hnl : ¬ j < s.size := by omega
          go_wp2_with fail
          go_quiet (fail)
          go_wp2_with fail
          go_ret2
          refine .inl ⟨signed false n, j, hlt, hjs, ⟨by simp [signed], HA.out.drewN _, by with_reducible repeat (first | assumption | apply Kept.drewN | apply Kept.set | exact Kept.refl _ _)⟩, fun k => ?_⟩
          exact HN.out.stop hlt (fun c hc => by simpa only [digitAt, hc] using HDJ.out) k

set_option maxRecDepth 100000 in
set_option maxHeartbeats 2000000 in
theorem r_digits_neg (bp : Nat) (s : ByteArray) (i0 d : Nat) (w : World) (h : RAt w bp s i0 0 d) (hs : s.size ≤ big) (hm : (L s)[i0]? = some 45) (hz : (L s)[(i0 + 1)]? ≠ some 48) :
    Calls Tryz.prog 54 #[.pointer (some ⟨bp, 0, none⟩)] w (RNum bp s w (i0 + 1) d true) := by
  unfold big at hs
  have hil : (i0 + 1) ≤ s.size := by have := (List.getElem?_eq_some_iff.1 hm).1; rw [L_len] at this; omega
  have HZ' : Hid (∀ w', RAt w' bp s (i0 + 1) 0 d → Calls Tryz.prog 69 #[.pointer (some ⟨bp, 0, none⟩), .int .u8 48] w' fun e w'' => e = .returned (.bool false) ∧ ∃ n, w'' = w'.drewN n) := fun w' h' => by
    have := r_is bp s (i0 + 1) 0 d 48 w' h'
    rwa [show isAt s (i0 + 1) 48 = false from decide_eq_false hz] at this
  have H48 := Lib.hid hz
  have HM := r_is bp s i0 0 d 45 w h
  rw [show isAt s i0 45 = true from decide_eq_true hm] at HM
  have hi0 : i0 < s.size := by have := (List.getElem?_eq_some_iff.1 hm).1; rwa [L_len] at this
  have HM' := Lib.hid HM
  have c1 := h.c1
  have f1 := h.f1
  have H0 := Lib.hid h
  have H := Lib.hid (show ∀ n, RAt ((w.drewN n).setCell ⟨bp, 1, none⟩ (.int .i64 (i0 + 1 : Nat))) bp s (i0 + 1) 0 d from fun n => (h.drewN n).set1 (i0 + 1))
  clear h hm HM
  clear hz
  go_enter Tryz.func54, Tryz.ntmps54
  go_wp2_with fail
  refine (HM'.out).mono ?_
  rintro e w1 ⟨rfl, n1, rfl⟩
  go_wp2_with fail
  refine (HZ'.out _ (by exact H.out n1)).mono ?_
  rintro e w2 ⟨rfl, n2, rfl⟩
  go_wp2_with fail
  go_loopg [6] (s.size - (i0 + 1)) (fun k v wr => ∃ j n : Nat, k = s.size - j ∧ v = .int .i64 n ∧ (i0 + 1) ≤ j ∧ j ≤ s.size ∧ NumAt (L s) (i0 + 1) true j n ∧ RAt wr bp s j 0 d ∧ Kept bp w wr)
  case atStart => exact ⟨(i0 + 1), 0, rfl, rfl, Nat.le_refl _, hil, NumAt.start true H48.out, (H.out n1).drewN n2, (by with_reducible repeat (first | assumption | apply Kept.drewN | apply Kept.set | exact Kept.refl _ _))⟩
  case round =>
    obtain ⟨j, n, hk, rfl, hij, hjs, hN, hA, hK⟩ := hrel
    have HK := Lib.hid hk
    have HN := Lib.hid hN
    have HA := Lib.hid hA
    have hn := hN.1
    unfold maxNumber at hn
    have c0 := hA.c0
    have c1 := hA.c1
    have f1 := hA.f1
    clear hk hN hA
    by_cases hdj : digitAt s j = true
    · have hjl : j < s.size := by
        by_cases hl : j < s.size
        · exact hl
        · simp only [digitAt, L_end (Nat.le_of_not_lt hl)] at hdj; cases hdj
      have hdg : isDigit s[j] = true := by simpa only [digitAt, L_get hjl] using hdj
      have hdd := hdg
      rw [isDigit_nat] at hdd
      simp only [Bool.and_eq_true, decide_eq_true_eq] at hdd
      have hjl' : (j : Int) < s.size := by omega
      have b0 : (48 : Int) ≤ (s[j].toNat : Int) := by omega
      have b9 : (s[j].toNat : Int) ≤ 57 := by omega
      have HDG := Lib.hid hdg
      clear hdg hdd hdj
      by_cases hov : 10 * n + dig s[j] ≤ maxNumber
      · have hov' : ¬ (9007199254740991 : Int) < 10 * (n : Int) + (s[j].toNat : Int) - 48 := by unfold maxNumber dig at hov; omega
        go_wp2_with fail
        go_quiet (fail)
        go_wp2_with fail
        go_quiet (fail)
        go_wp2_with fail
        go_roundg (s.size - (j + 1))
        case measure => rw [HK.out]; omega
        case rel =>
          refine ⟨j + 1, 10 * n + dig s[j], rfl, ?_, by omega, by omega, HN.out.step (L_get hjl) HDG.out hov, (HA.out.drewN _).set1 (j + 1), by with_reducible repeat (first | assumption | apply Kept.drewN | apply Kept.set | exact Kept.refl _ _)⟩
          refine congrArg (Value.int .i64) ?_
          unfold dig; omega
      · have hov' : (9007199254740991 : Int) < 10 * (n : Int) + (s[j].toNat : Int) - 48 := by unfold maxNumber dig at hov; omega
        go_wp2_with fail
        go_quiet (fail)
        go_wp2_with fail
        go_quiet (fail)
        go_wp2_with fail
        refine (r_wrong bp s j 0 d 43 _ (by exact HA.out)).mono ?_
        rintro e w5 ⟨rfl, ⟨d5, A5⟩, K5⟩
        have HA5 := Lib.hid A5
        clear A5
        go_wp2_with fail
        go_ret2
        exact .inr ⟨43, j, hjs, ⟨rfl, ⟨d5, HA5.out⟩, Kept.trans (by with_reducible repeat (first | assumption | apply Kept.drewN | apply Kept.set | exact Kept.refl _ _)) K5⟩, fun k => HN.out.over (L_get hjl) HDG.out (by omega) k⟩
    · rw [Bool.not_eq_true] at hdj
      have HDJ := Lib.hid hdj
      clear hdj
      by_cases hje : j = (i0 + 1)
      · have t7 : ((j : Int) == ((i0 : Int) + 1)) = true := by simp; omega
        have HJE := Lib.hid hje
        clear hje
        rcases digit_not HDJ.out with ⟨hjl, b0⟩ | ⟨hjl, b9⟩ | hjl
        · have hjl' : (j : Int) < s.size := by omega
          have g0 : decide ((48 : Int) ≤ (s[j].toNat : Int)) = false := by simp; omega
          go_wp2_with fail
          go_quiet (fail)
          go_wp2_with fail
          refine (r_wrong bp s j 0 d 40 _ (by exact HA.out)).mono ?_
          rintro e w5 ⟨rfl, ⟨d5, A5⟩, K5⟩
          have HA5 := Lib.hid A5
          clear A5
          go_wp2_with fail
          go_ret2
          refine .inr ⟨40, j, hjs, ⟨rfl, ⟨d5, HA5.out⟩, Kept.trans (by with_reducible repeat (first | assumption | apply Kept.drewN | apply Kept.set | exact Kept.refl _ _)) K5⟩, fun K => ?_⟩
          rw [HJE.out]
          exact num_none (L s) (i0 + 1) true (fun c hc => ⟨by have := HDJ.out; rw [HJE.out] at this; simpa only [digitAt, hc] using this, fun h => by cases h⟩) (by rw [L_len]; omega) K
        · have hjl' : (j : Int) < s.size := by omega
          have g0 : (48 : Int) ≤ (s[j].toNat : Int) := by omega
          have g9 : decide ((s[j].toNat : Int) ≤ 57) = false := by simp; omega
          go_wp2_with fail
          go_quiet (fail)
          go_wp2_with fail
          refine (r_wrong bp s j 0 d 40 _ (by exact HA.out)).mono ?_
          rintro e w5 ⟨rfl, ⟨d5, A5⟩, K5⟩
          have HA5 := Lib.hid A5
          clear A5
          go_wp2_with fail
          go_ret2
          refine .inr ⟨40, j, hjs, ⟨rfl, ⟨d5, HA5.out⟩, Kept.trans (by with_reducible repeat (first | assumption | apply Kept.drewN | apply Kept.set | exact Kept.refl _ _)) K5⟩, fun K => ?_⟩
          rw [HJE.out]
          exact num_none (L s) (i0 + 1) true (fun c hc => ⟨by have := HDJ.out; rw [HJE.out] at this; simpa only [digitAt, hc] using this, fun h => by cases h⟩) (by rw [L_len]; omega) K
        · have hjl' : decide ((j : Int) < s.size) = false := by simp; omega
          have hnl : ¬ j < s.size := by omega
          go_wp2_with fail
          go_quiet (fail)
          go_wp2_with fail
          refine (r_wrong bp s j 0 d 40 _ (by exact HA.out)).mono ?_
          rintro e w5 ⟨rfl, ⟨d5, A5⟩, K5⟩
          have HA5 := Lib.hid A5
          clear A5
          go_wp2_with fail
          go_ret2
          refine .inr ⟨40, j, hjs, ⟨rfl, ⟨d5, HA5.out⟩, Kept.trans (by with_reducible repeat (first | assumption | apply Kept.drewN | apply Kept.set | exact Kept.refl _ _)) K5⟩, fun K => ?_⟩
          rw [HJE.out]
          exact num_none (L s) (i0 + 1) true (fun c hc => ⟨by have := HDJ.out; rw [HJE.out] at this; simpa only [digitAt, hc] using this, fun h => by cases h⟩) (by rw [L_len]; omega) K
      · have t7 : ((j : Int) == ((i0 : Int) + 1)) = false := by simp; omega
        have hlt : (i0 + 1) < j := by omega
        clear hje
        rcases digit_not HDJ.out with ⟨hjl, b0⟩ | ⟨hjl, b9⟩ | hjl
        · have hjl' : (j : Int) < s.size := by omega
          have g0 : decide ((48 : Int) ≤ (s[j].toNat : Int)) = false := by simp; omega
          go_wp2_with fail
          go_quiet (fail)
          go_wp2_with fail
          go_ret2
          refine .inl ⟨signed true n, j, hlt, hjs, ⟨by simp [signed], HA.out.drewN _, by with_reducible repeat (first | assumption | apply Kept.drewN | apply Kept.set | exact Kept.refl _ _)⟩, fun k => ?_⟩
          exact HN.out.stop hlt (fun c hc => by simpa only [digitAt, hc] using HDJ.out) k
        · have hjl' : (j : Int) < s.size := by omega
          have g0 : (48 : Int) ≤ (s[j].toNat : Int) := by omega
          have g9 : decide ((s[j].toNat : Int) ≤ 57) = false := by simp; omega
          go_wp2_with fail
          go_quiet (fail)
          go_wp2_with fail
          go_ret2
          refine .inl ⟨signed true n, j, hlt, hjs, ⟨by simp [signed], HA.out.drewN _, by with_reducible repeat (first | assumption | apply Kept.drewN | apply Kept.set | exact Kept.refl _ _)⟩, fun k => ?_⟩
          exact HN.out.stop hlt (fun c hc => by simpa only [digitAt, hc] using HDJ.out) k
        · have hjl' : decide ((j : Int) < s.size) = false := by simp; omega
          have hnl : ¬ j < s.size := by omega
          go_wp2_with fail
          go_quiet (fail)
          go_wp2_with fail
          go_ret2
          refine .inl ⟨signed true n, j, hlt, hjs, ⟨by simp [signed], HA.out.drewN _, by with_reducible repeat (first | assumption | apply Kept.drewN | apply Kept.set | exact Kept.refl _ _)⟩, fun k => ?_⟩
          exact HN.out.stop hlt (fun c hc => by simpa only [digitAt, hc] using HDJ.out) k

/-- number, from its first byte on. -/
def RNumV (bp : Nat) (s : ByteArray) (w : World) (i d : Nat) (e : Ending) (w' : World) : Prop :=
  (∃ (v : Int) (j : Nat), i < j ∧ j ≤ s.size ∧ RWent bp s w (.tuple #[.int .i64 v, .bool true]) j d e w' ∧ ∀ k, R (L s) i ⟨.val, k⟩ = R (L s) j ⟨.after (.num v), k⟩) ∨
  (∃ k p, p ≤ s.size ∧ RGave bp s w (.tuple #[.int .i64 0, .bool false]) k p e w' ∧ ∀ K, R (L s) i ⟨.val, K⟩ = .bad k p)

theorem r_number (bp : Nat) (s : ByteArray) (i d : Nat) (w : World) (h : RAt w bp s i 0 d) (hs : s.size ≤ big) (hn : (L s)[i]? = some 45 ∨ digitAt s i = true) :
    Calls Tryz.prog 54 #[.pointer (some ⟨bp, 0, none⟩)] w (RNumV bp s w i d) := by
  by_cases hm : (L s)[i]? = some 45
  · have hR := num_neg (L s) i hm
    by_cases hz : (L s)[i + 1]? = some 48
    · refine (r_zero_neg bp s i d w h hs hm hz).mono ?_
      rintro e w' (⟨v, j, h1, h2, h3, h4⟩ | ⟨k, p, h1, h2, h3⟩)
      · exact .inl ⟨v, j, by omega, h2, h3, fun k => (hR k).trans (h4 k)⟩
      · exact .inr ⟨k, p, h1, h2, fun K => (hR K).trans (h3 K)⟩
    · refine (r_digits_neg bp s i d w h hs hm hz).mono ?_
      rintro e w' (⟨v, j, h1, h2, h3, h4⟩ | ⟨k, p, h1, h2, h3⟩)
      · exact .inl ⟨v, j, by omega, h2, h3, fun k => (hR k).trans (h4 k)⟩
      · exact .inr ⟨k, p, h1, h2, fun K => (hR K).trans (h3 K)⟩
  · have hd : digitAt s i = true := hn.resolve_left hm
    by_cases hz : (L s)[i]? = some 48
    · refine (r_zero_pos bp s i d w h hs hm hz).mono ?_
      rintro e w' (⟨v, j, h1, h2, h3, h4⟩ | ⟨k, p, h1, h2, h3⟩)
      · exact .inl ⟨v, j, h1, h2, h3, h4⟩
      · exact .inr ⟨k, p, h1, h2, h3⟩
    · refine (r_digits_pos bp s i d w h hs hm hz hd).mono ?_
      rintro e w' (⟨v, j, h1, h2, h3, h4⟩ | ⟨k, p, h1, h2, h3⟩)
      · exact .inl ⟨v, j, h1, h2, h3, h4⟩
      · exact .inr ⟨k, p, h1, h2, h3⟩

#print axioms r_number

end Jot
end Go.Proofs.YthgcnmdnjfajbaaGreatDoor
