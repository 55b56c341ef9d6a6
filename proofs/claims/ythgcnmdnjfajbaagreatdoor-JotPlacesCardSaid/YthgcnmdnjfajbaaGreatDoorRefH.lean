/- Walk over the reference's reader: four. Conditions: a reader that stands in its text. -/
import Derived.Test.YthgcnmdnjfajbaaGreatDoorRefF
namespace Go.Proofs.YthgcnmdnjfajbaaGreatDoor
open Go.RowKit
namespace Jot

theorem hexDigit_lt {c : UInt8} {d : Nat} (h : hexDigit c = some d) : d < 16 := by
  rw [hexDigit_nat] at h
  repeat' (split at h)
  all_goals first
    | (cases h; done)
    | (simp only [Option.some.injEq] at h; omega)

/-- How far the digits have come. -/
def FourAt (s : ByteArray) (i : Nat) (lower : Bool) (n0 m n : Nat) : Prop :=
  ((m = 0 ∧ n = 0) ∨ (m = 1 ∧ n < 16 ∧ (lower = true → n = 13)) ∨ (m = 2 ∧ n < 256 ∧ (lower = true → 220 ≤ n ∧ n < 224)) ∨ (m = 3 ∧ n < 4096 ∧ (lower = true → 3520 ≤ n ∧ n < 3584))) ∧
  ∀ key acc K, R (L s) i (hexSt lower n0 0 0 key acc K) = R (L s) (i + m) (hexSt lower n0 m n key acc K)

def FourEnd (s : ByteArray) (i : Nat) (lower : Bool) (n0 n : Nat) : Prop :=
  ∃ n' dg c, n = 16 * n' + dg ∧ FourAt s i lower n0 3 n' ∧ (L s)[i + 3]? = some c ∧ hexDigit c = some dg ∧ hexMay lower 3 n' dg = true

theorem FourAt.step {s : ByteArray} {i : Nat} {lower : Bool} {n0 m n : Nat} (h : FourAt s i lower n0 m n) (hm : m < 3) {c : UInt8} {dg : Nat} (hc : (L s)[i + m]? = some c) (hd : hexDigit c = some dg) (hmay : hexMay lower m n dg = true) :
    FourAt s i lower n0 (m + 1) (16 * n + dg) := by
  have h16 := hexDigit_lt hd
  refine ⟨?_, fun key acc K => by rw [h.2, hex_go hc hd hmay hm]; rfl⟩
  rcases h.1 with ⟨rfl, rfl⟩ | ⟨rfl, hn, hl⟩ | ⟨rfl, hn, hl⟩ | ⟨rfl, _⟩
  · refine .inr (.inl ⟨rfl, by omega, fun hlo => ?_⟩)
    subst hlo
    have : dg = 13 := by simpa [hexMay] using hmay
    omega
  · refine .inr (.inr (.inl ⟨rfl, by omega, fun hlo => ?_⟩))
    have := hl hlo
    subst hlo
    have : 12 ≤ dg := by simpa [hexMay] using hmay
    omega
  · refine .inr (.inr (.inr ⟨rfl, by omega, fun hlo => ?_⟩))
    have := hl hlo
    omega
  · omega

theorem int_eq {k : IntKind} {a b : Int} (h : a = b) : Value.int k a = Value.int k b := by rw [h]

set_option maxRecDepth 100000 in
set_option maxHeartbeats 4000000 in
theorem r_four_false (bp : Nat) (s : ByteArray) (i d n0 : Nat) (w : World) (h : RAt w bp s i 0 d) (hi : i ≤ s.size) (hs : s.size ≤ big) :
    Calls Tryz.prog 100 #[.pointer (some ⟨bp, 0, none⟩), .bool false] w (RFour bp s w i d false n0) := by
  unfold big at hs
  have H := Lib.hid h
  clear h
  go_enter Tryz.func100, Tryz.ntmps100
  go_wp2_with fail
  go_loopg [6, 7] 5 (fun k nv iv wr => ∃ m n : Nat, k = 5 - m ∧ nv = .int .i64 n ∧ iv = .int .i64 m ∧ m ≤ 4 ∧ i + m ≤ s.size ∧ RAt wr bp s (i + m) 0 d ∧ Kept bp w wr ∧ ((m < 4 ∧ FourAt s i false n0 m n) ∨ (m = 4 ∧ FourEnd s i false n0 n)))
  case atStart => exact ⟨0, 0, rfl, rfl, rfl, by omega, hi, H.out, Kept.refl _ _, .inl ⟨by omega, .inl ⟨rfl, rfl⟩, fun key acc K => rfl⟩⟩
  case round =>
    obtain ⟨m, n, hk, rfl, rfl, hm4, hms, hA, hK, hF | hF⟩ := hrel
    · have HF := Lib.hid hF.2
      have hm := hF.1
      have HA := Lib.hid hA
      have HK := Lib.hid hk
      have c0 := hA.c0
      have c1 := hA.c1
      have f1 := hA.f1
      have hnn := hF.2.1
      have hnb : n < 4096 := by omega
      clear hF hA hk
      obtain rfl | rfl | rfl | rfl : m = 0 ∨ m = 1 ∨ m = 2 ∨ m = 3 := by omega
      · by_cases hl : i < s.size
        · have hl' : ((i : Nat) : Int) < s.size := by omega
          have hN : ∀ w', Calls Tryz.prog 107 #[.int .u8 s[i].toNat] w' fun e w'' => e = .returned (.int .i64 (nib s[i])) ∧ w'' = w' := fun w' => (r_nibble s[i] w').mono fun _ _ h => ⟨h.1, h.2.symm⟩
          cases hd : hexDigit s[i] with
          | none =>
            have hnb1 : nib s[i] = -1 := by unfold nib; rw [hd]
            simp only [hnb1] at hN
            have HN := Lib.hid hN
            have HB := Lib.hid (show ∀ c d', (L s)[i]? = some c → hexDigit c = some d' → hexMay false 0 n d' = false from fun c d' h1 h2 => by rw [L_get hl] at h1; cases h1; rw [hd] at h2; cases h2)
            clear hN hd hnb1
            go_wp2_with fail
            go_quiet (fail)
            go_wp2_with fail
            go_quiet ((go_at_call 107; exact (HN.out _).mono (fun _ _ h => ⟨h.1, _, h.2⟩)))
            go_wp2_with fail
            refine (r_wrong bp s (i) 0 d 40 _ (by exact HA.out)).mono ?_
            rintro e w5 ⟨rfl, ⟨d5, A5⟩, K5⟩
            have HA5 := Lib.hid A5
            clear A5
            go_wp2_with fail
            go_ret2
            exact .inr ⟨i, hms, ⟨rfl, ⟨d5, HA5.out⟩, Kept.trans (by with_reducible repeat (first | assumption | apply Kept.drewN | apply Kept.set | exact Kept.refl _ _)) K5⟩, fun key acc K => by rw [HF.out.2 key acc K]; exact hex_bad HB.out key acc K⟩
          | some dg =>
            have h16 := hexDigit_lt hd
            have hnb1 : nib s[i] = (dg : Int) := by unfold nib; rw [hd]
            simp only [hnb1] at hN
            have HN := Lib.hid hN
            have HD := Lib.hid hd
            clear hN hd hnb1
            have g0 : ¬ ((dg : Int) < 0) := by omega
            have HM := Lib.hid (show hexMay false 0 n dg = true by simp [hexMay]; try omega)
            go_wp2_with fail
            go_quiet (fail)
            go_wp2_with fail
            go_quiet ((go_at_call 107; exact (HN.out _).mono (fun _ _ h => ⟨h.1, _, h.2⟩)))
            go_wp2_with fail
            go_roundg 4
            case measure => rw [HK.out]; omega
            case rel =>
              refine ⟨1, 16 * n + dg, rfl, int_eq (by omega), rfl, by omega, by omega, (HA.out.drewN _).set1 (i + 1), by with_reducible repeat (first | assumption | apply Kept.drewN | apply Kept.set | exact Kept.refl _ _), .inl ⟨by omega, HF.out.step (by omega) (L_get hl) HD.out HM.out⟩⟩
        · have hl' : decide (((i : Nat) : Int) < s.size) = false := by simp; omega
          have hl2 : ¬ (((i : Nat) : Int) < s.size) := by omega
          have HB := Lib.hid (show ∀ c d', (L s)[i]? = some c → hexDigit c = some d' → hexMay false 0 n d' = false from fun c d' h1 h2 => by rw [L_end (by omega)] at h1; cases h1)
          go_wp2_with fail
          go_quiet (fail)
          go_wp2_with fail
          refine (r_wrong bp s (i) 0 d 40 _ (by exact HA.out)).mono ?_
          rintro e w5 ⟨rfl, ⟨d5, A5⟩, K5⟩
          have HA5 := Lib.hid A5
          clear A5
          go_wp2_with fail
          go_ret2
          exact .inr ⟨i, hms, ⟨rfl, ⟨d5, HA5.out⟩, Kept.trans (by with_reducible repeat (first | assumption | apply Kept.drewN | apply Kept.set | exact Kept.refl _ _)) K5⟩, fun key acc K => by rw [HF.out.2 key acc K]; exact hex_bad HB.out key acc K⟩
      · by_cases hl : i + 1 < s.size
        · have hl' : ((i + 1 : Nat) : Int) < s.size := by omega
          have p0 : (0 : Int) ≤ (i : Int) + 1 := by omega
          have p1 : ((i : Int) + 1).toNat = i + 1 := by omega
          have p2 : (i : Int) + 1 < s.size := by omega
          have hN : ∀ w', Calls Tryz.prog 107 #[.int .u8 s[i + 1].toNat] w' fun e w'' => e = .returned (.int .i64 (nib s[i + 1])) ∧ w'' = w' := fun w' => (r_nibble s[i + 1] w').mono fun _ _ h => ⟨h.1, h.2.symm⟩
          cases hd : hexDigit s[i + 1] with
          | none =>
            have hnb1 : nib s[i + 1] = -1 := by unfold nib; rw [hd]
            simp only [hnb1] at hN
            have HN := Lib.hid hN
            have HB := Lib.hid (show ∀ c d', (L s)[i + 1]? = some c → hexDigit c = some d' → hexMay false 1 n d' = false from fun c d' h1 h2 => by rw [L_get hl] at h1; cases h1; rw [hd] at h2; cases h2)
            clear hN hd hnb1
            go_wp2_with fail
            go_quiet (fail)
            go_wp2_with fail
            go_quiet ((go_at_call 107; exact (HN.out _).mono (fun _ _ h => ⟨h.1, _, h.2⟩)))
            go_wp2_with fail
            refine (r_wrong bp s (i + 1) 0 d 40 _ (by exact HA.out)).mono ?_
            rintro e w5 ⟨rfl, ⟨d5, A5⟩, K5⟩
            have HA5 := Lib.hid A5
            clear A5
            go_wp2_with fail
            go_ret2
            exact .inr ⟨i + 1, hms, ⟨rfl, ⟨d5, HA5.out⟩, Kept.trans (by with_reducible repeat (first | assumption | apply Kept.drewN | apply Kept.set | exact Kept.refl _ _)) K5⟩, fun key acc K => by rw [HF.out.2 key acc K]; exact hex_bad HB.out key acc K⟩
          | some dg =>
            have h16 := hexDigit_lt hd
            have hnb1 : nib s[i + 1] = (dg : Int) := by unfold nib; rw [hd]
            simp only [hnb1] at hN
            have HN := Lib.hid hN
            have HD := Lib.hid hd
            clear hN hd hnb1
            by_cases hn13 : n = 13
            · by_cases hc : 12 ≤ dg
              · have g0 : ¬ ((dg : Int) < 0) := by omega
                have g1 : ((n : Int) == 13) = true := by simp; omega
                have g2 : decide ((12 : Int) ≤ (dg : Int)) = true := by simp; omega
                have g3 : ((12 : Int) ≤ (dg : Int)) := by omega
                have HB := Lib.hid (show ∀ c d', (L s)[i + 1]? = some c → hexDigit c = some d' → hexMay false 1 n d' = false from fun c d' h1 h2 => by rw [L_get hl] at h1; cases h1; rw [HD.out] at h2; cases h2; simp [hexMay]; omega)
                go_wp2_with fail
                go_quiet (fail)
                go_wp2_with fail
                go_quiet ((go_at_call 107; exact (HN.out _).mono (fun _ _ h => ⟨h.1, _, h.2⟩)))
                go_wp2_with fail
                refine (r_wrong bp s (i + 1) 0 d 40 _ (by exact HA.out)).mono ?_
                rintro e w5 ⟨rfl, ⟨d5, A5⟩, K5⟩
                have HA5 := Lib.hid A5
                clear A5
                go_wp2_with fail
                go_ret2
                exact .inr ⟨i + 1, hms, ⟨rfl, ⟨d5, HA5.out⟩, Kept.trans (by with_reducible repeat (first | assumption | apply Kept.drewN | apply Kept.set | exact Kept.refl _ _)) K5⟩, fun key acc K => by rw [HF.out.2 key acc K]; exact hex_bad HB.out key acc K⟩
              · have g0 : ¬ ((dg : Int) < 0) := by omega
                have g1 : ((n : Int) == 13) = true := by simp; omega
                have g2 : decide ((12 : Int) ≤ (dg : Int)) = false := by simp; omega
                have g3 : ¬ ((12 : Int) ≤ (dg : Int)) := by omega
                have HM := Lib.hid (show hexMay false 1 n dg = true by simp [hexMay]; try omega)
                go_wp2_with fail
                go_quiet (fail)
                go_wp2_with fail
                go_quiet ((go_at_call 107; exact (HN.out _).mono (fun _ _ h => ⟨h.1, _, h.2⟩)))
                go_wp2_with fail
                go_roundg 3
                case measure => rw [HK.out]; omega
                case rel =>
                  refine ⟨2, 16 * n + dg, rfl, int_eq (by omega), rfl, by omega, by omega, (HA.out.drewN _).set1 (i + 2), by with_reducible repeat (first | assumption | apply Kept.drewN | apply Kept.set | exact Kept.refl _ _), .inl ⟨by omega, HF.out.step (by omega) (L_get hl) HD.out HM.out⟩⟩
            · have g0 : ¬ ((dg : Int) < 0) := by omega
              have g1 : ((n : Int) == 13) = false := by simp; omega
              have HM := Lib.hid (show hexMay false 1 n dg = true by simp [hexMay]; try omega)
              go_wp2_with fail
              go_quiet (fail)
              go_wp2_with fail
              go_quiet ((go_at_call 107; exact (HN.out _).mono (fun _ _ h => ⟨h.1, _, h.2⟩)))
              go_wp2_with fail
              go_roundg 3
              case measure => rw [HK.out]; omega
              case rel =>
                refine ⟨2, 16 * n + dg, rfl, int_eq (by omega), rfl, by omega, by omega, (HA.out.drewN _).set1 (i + 2), by with_reducible repeat (first | assumption | apply Kept.drewN | apply Kept.set | exact Kept.refl _ _), .inl ⟨by omega, HF.out.step (by omega) (L_get hl) HD.out HM.out⟩⟩
        · have hl' : decide (((i + 1 : Nat) : Int) < s.size) = false := by simp; omega
          have hl2 : ¬ (((i + 1 : Nat) : Int) < s.size) := by omega
          have HB := Lib.hid (show ∀ c d', (L s)[i + 1]? = some c → hexDigit c = some d' → hexMay false 1 n d' = false from fun c d' h1 h2 => by rw [L_end (by omega)] at h1; cases h1)
          go_wp2_with fail
          go_quiet (fail)
          go_wp2_with fail
          refine (r_wrong bp s (i + 1) 0 d 40 _ (by exact HA.out)).mono ?_
          rintro e w5 ⟨rfl, ⟨d5, A5⟩, K5⟩
          have HA5 := Lib.hid A5
          clear A5
          go_wp2_with fail
          go_ret2
          exact .inr ⟨i + 1, hms, ⟨rfl, ⟨d5, HA5.out⟩, Kept.trans (by with_reducible repeat (first | assumption | apply Kept.drewN | apply Kept.set | exact Kept.refl _ _)) K5⟩, fun key acc K => by rw [HF.out.2 key acc K]; exact hex_bad HB.out key acc K⟩
      · by_cases hl : i + 2 < s.size
        · have hl' : ((i + 2 : Nat) : Int) < s.size := by omega
          have p0 : (0 : Int) ≤ (i : Int) + 2 := by omega
          have p1 : ((i : Int) + 2).toNat = i + 2 := by omega
          have p2 : (i : Int) + 2 < s.size := by omega
          have hN : ∀ w', Calls Tryz.prog 107 #[.int .u8 s[i + 2].toNat] w' fun e w'' => e = .returned (.int .i64 (nib s[i + 2])) ∧ w'' = w' := fun w' => (r_nibble s[i + 2] w').mono fun _ _ h => ⟨h.1, h.2.symm⟩
          cases hd : hexDigit s[i + 2] with
          | none =>
            have hnb1 : nib s[i + 2] = -1 := by unfold nib; rw [hd]
            simp only [hnb1] at hN
            have HN := Lib.hid hN
            have HB := Lib.hid (show ∀ c d', (L s)[i + 2]? = some c → hexDigit c = some d' → hexMay false 2 n d' = false from fun c d' h1 h2 => by rw [L_get hl] at h1; cases h1; rw [hd] at h2; cases h2)
            clear hN hd hnb1
            go_wp2_with fail
            go_quiet (fail)
            go_wp2_with fail
            go_quiet ((go_at_call 107; exact (HN.out _).mono (fun _ _ h => ⟨h.1, _, h.2⟩)))
            go_wp2_with fail
            refine (r_wrong bp s (i + 2) 0 d 40 _ (by exact HA.out)).mono ?_
            rintro e w5 ⟨rfl, ⟨d5, A5⟩, K5⟩
            have HA5 := Lib.hid A5
            clear A5
            go_wp2_with fail
            go_ret2
            exact .inr ⟨i + 2, hms, ⟨rfl, ⟨d5, HA5.out⟩, Kept.trans (by with_reducible repeat (first | assumption | apply Kept.drewN | apply Kept.set | exact Kept.refl _ _)) K5⟩, fun key acc K => by rw [HF.out.2 key acc K]; exact hex_bad HB.out key acc K⟩
          | some dg =>
            have h16 := hexDigit_lt hd
            have hnb1 : nib s[i + 2] = (dg : Int) := by unfold nib; rw [hd]
            simp only [hnb1] at hN
            have HN := Lib.hid hN
            have HD := Lib.hid hd
            clear hN hd hnb1
            have g0 : ¬ ((dg : Int) < 0) := by omega
            have HM := Lib.hid (show hexMay false 2 n dg = true by simp [hexMay]; try omega)
            go_wp2_with fail
            go_quiet (fail)
            go_wp2_with fail
            go_quiet ((go_at_call 107; exact (HN.out _).mono (fun _ _ h => ⟨h.1, _, h.2⟩)))
            go_wp2_with fail
            go_roundg 2
            case measure => rw [HK.out]; omega
            case rel =>
              refine ⟨3, 16 * n + dg, rfl, int_eq (by omega), rfl, by omega, by omega, (HA.out.drewN _).set1 (i + 3), by with_reducible repeat (first | assumption | apply Kept.drewN | apply Kept.set | exact Kept.refl _ _), .inl ⟨by omega, HF.out.step (by omega) (L_get hl) HD.out HM.out⟩⟩
        · have hl' : decide (((i + 2 : Nat) : Int) < s.size) = false := by simp; omega
          have hl2 : ¬ (((i + 2 : Nat) : Int) < s.size) := by omega
          have HB := Lib.hid (show ∀ c d', (L s)[i + 2]? = some c → hexDigit c = some d' → hexMay false 2 n d' = false from fun c d' h1 h2 => by rw [L_end (by omega)] at h1; cases h1)
          go_wp2_with fail
          go_quiet (fail)
          go_wp2_with fail
          refine (r_wrong bp s (i + 2) 0 d 40 _ (by exact HA.out)).mono ?_
          rintro e w5 ⟨rfl, ⟨d5, A5⟩, K5⟩
          have HA5 := Lib.hid A5
          clear A5
          go_wp2_with fail
          go_ret2
          exact .inr ⟨i + 2, hms, ⟨rfl, ⟨d5, HA5.out⟩, Kept.trans (by with_reducible repeat (first | assumption | apply Kept.drewN | apply Kept.set | exact Kept.refl _ _)) K5⟩, fun key acc K => by rw [HF.out.2 key acc K]; exact hex_bad HB.out key acc K⟩
      · by_cases hl : i + 3 < s.size
        · have hl' : ((i + 3 : Nat) : Int) < s.size := by omega
          have p0 : (0 : Int) ≤ (i : Int) + 3 := by omega
          have p1 : ((i : Int) + 3).toNat = i + 3 := by omega
          have p2 : (i : Int) + 3 < s.size := by omega
          have hN : ∀ w', Calls Tryz.prog 107 #[.int .u8 s[i + 3].toNat] w' fun e w'' => e = .returned (.int .i64 (nib s[i + 3])) ∧ w'' = w' := fun w' => (r_nibble s[i + 3] w').mono fun _ _ h => ⟨h.1, h.2.symm⟩
          cases hd : hexDigit s[i + 3] with
          | none =>
            have hnb1 : nib s[i + 3] = -1 := by unfold nib; rw [hd]
            simp only [hnb1] at hN
            have HN := Lib.hid hN
            have HB := Lib.hid (show ∀ c d', (L s)[i + 3]? = some c → hexDigit c = some d' → hexMay false 3 n d' = false from fun c d' h1 h2 => by rw [L_get hl] at h1; cases h1; rw [hd] at h2; cases h2)
            clear hN hd hnb1
            go_wp2_with fail
            go_quiet (fail)
            go_wp2_with fail
            go_quiet ((go_at_call 107; exact (HN.out _).mono (fun _ _ h => ⟨h.1, _, h.2⟩)))
            go_wp2_with fail
            refine (r_wrong bp s (i + 3) 0 d 40 _ (by exact HA.out)).mono ?_
            rintro e w5 ⟨rfl, ⟨d5, A5⟩, K5⟩
            have HA5 := Lib.hid A5
            clear A5
            go_wp2_with fail
            go_ret2
            exact .inr ⟨i + 3, hms, ⟨rfl, ⟨d5, HA5.out⟩, Kept.trans (by with_reducible repeat (first | assumption | apply Kept.drewN | apply Kept.set | exact Kept.refl _ _)) K5⟩, fun key acc K => by rw [HF.out.2 key acc K]; exact hex_bad HB.out key acc K⟩
          | some dg =>
            have h16 := hexDigit_lt hd
            have hnb1 : nib s[i + 3] = (dg : Int) := by unfold nib; rw [hd]
            simp only [hnb1] at hN
            have HN := Lib.hid hN
            have HD := Lib.hid hd
            clear hN hd hnb1
            have g0 : ¬ ((dg : Int) < 0) := by omega
            have HM := Lib.hid (show hexMay false 3 n dg = true by simp [hexMay]; try omega)
            go_wp2_with fail
            go_quiet (fail)
            go_wp2_with fail
            go_quiet ((go_at_call 107; exact (HN.out _).mono (fun _ _ h => ⟨h.1, _, h.2⟩)))
            go_wp2_with fail
            go_roundg 1
            case measure => rw [HK.out]; omega
            case rel =>
              refine ⟨4, 16 * n + dg, rfl, int_eq (by omega), rfl, by omega, by omega, (HA.out.drewN _).set1 (i + 4), by with_reducible repeat (first | assumption | apply Kept.drewN | apply Kept.set | exact Kept.refl _ _), .inr ⟨rfl, n, dg, _, rfl, HF.out, L_get hl, HD.out, HM.out⟩⟩
        · have hl' : decide (((i + 3 : Nat) : Int) < s.size) = false := by simp; omega
          have hl2 : ¬ (((i + 3 : Nat) : Int) < s.size) := by omega
          have HB := Lib.hid (show ∀ c d', (L s)[i + 3]? = some c → hexDigit c = some d' → hexMay false 3 n d' = false from fun c d' h1 h2 => by rw [L_end (by omega)] at h1; cases h1)
          go_wp2_with fail
          go_quiet (fail)
          go_wp2_with fail
          refine (r_wrong bp s (i + 3) 0 d 40 _ (by exact HA.out)).mono ?_
          rintro e w5 ⟨rfl, ⟨d5, A5⟩, K5⟩
          have HA5 := Lib.hid A5
          clear A5
          go_wp2_with fail
          go_ret2
          exact .inr ⟨i + 3, hms, ⟨rfl, ⟨d5, HA5.out⟩, Kept.trans (by with_reducible repeat (first | assumption | apply Kept.drewN | apply Kept.set | exact Kept.refl _ _)) K5⟩, fun key acc K => by rw [HF.out.2 key acc K]; exact hex_bad HB.out key acc K⟩
    · obtain ⟨rfl, n', dg, c, rfl, hF, h1, h2, h3⟩ := hF
      have HF := Lib.hid hF
      have H1 := Lib.hid h1
      have H2 := Lib.hid h2
      have H3 := Lib.hid h3
      have HA := Lib.hid hA
      have h16 := hexDigit_lt h2
      have hnn := hF.1
      clear hF h1 h2 h3 hA
      go_wp2_with fail
      go_ret2
      refine .inl ⟨n', dg, by omega, by omega, ⟨c, H1.out, H2.out, H3.out⟩, fun hlo => ?_, ⟨rfl, HA.out, hK⟩, HF.out.2⟩
      simp at hnn hlo
      try omega

set_option maxRecDepth 100000 in
set_option maxHeartbeats 4000000 in
theorem r_four_true (bp : Nat) (s : ByteArray) (i d n0 : Nat) (w : World) (h : RAt w bp s i 0 d) (hi : i ≤ s.size) (hs : s.size ≤ big) :
    Calls Tryz.prog 100 #[.pointer (some ⟨bp, 0, none⟩), .bool true] w (RFour bp s w i d true n0) := by
  unfold big at hs
  have H := Lib.hid h
  clear h
  go_enter Tryz.func100, Tryz.ntmps100
  go_wp2_with fail
  go_loopg [6, 7] 5 (fun k nv iv wr => ∃ m n : Nat, k = 5 - m ∧ nv = .int .i64 n ∧ iv = .int .i64 m ∧ m ≤ 4 ∧ i + m ≤ s.size ∧ RAt wr bp s (i + m) 0 d ∧ Kept bp w wr ∧ ((m < 4 ∧ FourAt s i true n0 m n) ∨ (m = 4 ∧ FourEnd s i true n0 n)))
  case atStart => exact ⟨0, 0, rfl, rfl, rfl, by omega, hi, H.out, Kept.refl _ _, .inl ⟨by omega, .inl ⟨rfl, rfl⟩, fun key acc K => rfl⟩⟩
  case round =>
    obtain ⟨m, n, hk, rfl, rfl, hm4, hms, hA, hK, hF | hF⟩ := hrel
    · have HF := Lib.hid hF.2
      have hm := hF.1
      have HA := Lib.hid hA
      have HK := Lib.hid hk
      have c0 := hA.c0
      have c1 := hA.c1
      have f1 := hA.f1
      have hnn := hF.2.1
      have hnb : n < 4096 := by omega
      clear hF hA hk
      obtain rfl | rfl | rfl | rfl : m = 0 ∨ m = 1 ∨ m = 2 ∨ m = 3 := by omega
      · by_cases hl : i < s.size
        · have hl' : ((i : Nat) : Int) < s.size := by omega
          have hN : ∀ w', Calls Tryz.prog 107 #[.int .u8 s[i].toNat] w' fun e w'' => e = .returned (.int .i64 (nib s[i])) ∧ w'' = w' := fun w' => (r_nibble s[i] w').mono fun _ _ h => ⟨h.1, h.2.symm⟩
          cases hd : hexDigit s[i] with
          | none =>
            have hnb1 : nib s[i] = -1 := by unfold nib; rw [hd]
            simp only [hnb1] at hN
            have HN := Lib.hid hN
            have HB := Lib.hid (show ∀ c d', (L s)[i]? = some c → hexDigit c = some d' → hexMay true 0 n d' = false from fun c d' h1 h2 => by rw [L_get hl] at h1; cases h1; rw [hd] at h2; cases h2)
            clear hN hd hnb1
            go_wp2_with fail
            go_quiet (fail)
            go_wp2_with fail
            go_quiet ((go_at_call 107; exact (HN.out _).mono (fun _ _ h => ⟨h.1, _, h.2⟩)))
            go_wp2_with fail
            refine (r_wrong bp s (i) 0 d 40 _ (by exact HA.out)).mono ?_
            rintro e w5 ⟨rfl, ⟨d5, A5⟩, K5⟩
            have HA5 := Lib.hid A5
            clear A5
            go_wp2_with fail
            go_ret2
            exact .inr ⟨i, hms, ⟨rfl, ⟨d5, HA5.out⟩, Kept.trans (by with_reducible repeat (first | assumption | apply Kept.drewN | apply Kept.set | exact Kept.refl _ _)) K5⟩, fun key acc K => by rw [HF.out.2 key acc K]; exact hex_bad HB.out key acc K⟩
          | some dg =>
            have h16 := hexDigit_lt hd
            have hnb1 : nib s[i] = (dg : Int) := by unfold nib; rw [hd]
            simp only [hnb1] at hN
            have HN := Lib.hid hN
            have HD := Lib.hid hd
            clear hN hd hnb1
            by_cases hc : dg = 13
            · have g0 : ¬ ((dg : Int) < 0) := by omega
              have g1 : ((dg : Int) == 13) = true := by simp; omega
              have HM := Lib.hid (show hexMay true 0 n dg = true by simp [hexMay]; try omega)
              go_wp2_with fail
              go_quiet (fail)
              go_wp2_with fail
              go_quiet ((go_at_call 107; exact (HN.out _).mono (fun _ _ h => ⟨h.1, _, h.2⟩)))
              go_wp2_with fail
              go_roundg 4
              case measure => rw [HK.out]; omega
              case rel =>
                refine ⟨1, 16 * n + dg, rfl, int_eq (by omega), rfl, by omega, by omega, (HA.out.drewN _).set1 (i + 1), by with_reducible repeat (first | assumption | apply Kept.drewN | apply Kept.set | exact Kept.refl _ _), .inl ⟨by omega, HF.out.step (by omega) (L_get hl) HD.out HM.out⟩⟩
            · have g0 : ¬ ((dg : Int) < 0) := by omega
              have g1 : ((dg : Int) == 13) = false := by simp; omega
              have HB := Lib.hid (show ∀ c d', (L s)[i]? = some c → hexDigit c = some d' → hexMay true 0 n d' = false from fun c d' h1 h2 => by rw [L_get hl] at h1; cases h1; rw [HD.out] at h2; cases h2; simp [hexMay]; omega)
              go_wp2_with fail
              go_quiet (fail)
              go_wp2_with fail
              go_quiet ((go_at_call 107; exact (HN.out _).mono (fun _ _ h => ⟨h.1, _, h.2⟩)))
              go_wp2_with fail
              refine (r_wrong bp s (i) 0 d 40 _ (by exact HA.out)).mono ?_
              rintro e w5 ⟨rfl, ⟨d5, A5⟩, K5⟩
              have HA5 := Lib.hid A5
              clear A5
              go_wp2_with fail
              go_ret2
              exact .inr ⟨i, hms, ⟨rfl, ⟨d5, HA5.out⟩, Kept.trans (by with_reducible repeat (first | assumption | apply Kept.drewN | apply Kept.set | exact Kept.refl _ _)) K5⟩, fun key acc K => by rw [HF.out.2 key acc K]; exact hex_bad HB.out key acc K⟩
        · have hl' : decide (((i : Nat) : Int) < s.size) = false := by simp; omega
          have hl2 : ¬ (((i : Nat) : Int) < s.size) := by omega
          have HB := Lib.hid (show ∀ c d', (L s)[i]? = some c → hexDigit c = some d' → hexMay true 0 n d' = false from fun c d' h1 h2 => by rw [L_end (by omega)] at h1; cases h1)
          go_wp2_with fail
          go_quiet (fail)
          go_wp2_with fail
          refine (r_wrong bp s (i) 0 d 40 _ (by exact HA.out)).mono ?_
          rintro e w5 ⟨rfl, ⟨d5, A5⟩, K5⟩
          have HA5 := Lib.hid A5
          clear A5
          go_wp2_with fail
          go_ret2
          exact .inr ⟨i, hms, ⟨rfl, ⟨d5, HA5.out⟩, Kept.trans (by with_reducible repeat (first | assumption | apply Kept.drewN | apply Kept.set | exact Kept.refl _ _)) K5⟩, fun key acc K => by rw [HF.out.2 key acc K]; exact hex_bad HB.out key acc K⟩
      · by_cases hl : i + 1 < s.size
        · have hl' : ((i + 1 : Nat) : Int) < s.size := by omega
          have p0 : (0 : Int) ≤ (i : Int) + 1 := by omega
          have p1 : ((i : Int) + 1).toNat = i + 1 := by omega
          have p2 : (i : Int) + 1 < s.size := by omega
          have hN : ∀ w', Calls Tryz.prog 107 #[.int .u8 s[i + 1].toNat] w' fun e w'' => e = .returned (.int .i64 (nib s[i + 1])) ∧ w'' = w' := fun w' => (r_nibble s[i + 1] w').mono fun _ _ h => ⟨h.1, h.2.symm⟩
          cases hd : hexDigit s[i + 1] with
          | none =>
            have hnb1 : nib s[i + 1] = -1 := by unfold nib; rw [hd]
            simp only [hnb1] at hN
            have HN := Lib.hid hN
            have HB := Lib.hid (show ∀ c d', (L s)[i + 1]? = some c → hexDigit c = some d' → hexMay true 1 n d' = false from fun c d' h1 h2 => by rw [L_get hl] at h1; cases h1; rw [hd] at h2; cases h2)
            clear hN hd hnb1
            go_wp2_with fail
            go_quiet (fail)
            go_wp2_with fail
            go_quiet ((go_at_call 107; exact (HN.out _).mono (fun _ _ h => ⟨h.1, _, h.2⟩)))
            go_wp2_with fail
            refine (r_wrong bp s (i + 1) 0 d 40 _ (by exact HA.out)).mono ?_
            rintro e w5 ⟨rfl, ⟨d5, A5⟩, K5⟩
            have HA5 := Lib.hid A5
            clear A5
            go_wp2_with fail
            go_ret2
            exact .inr ⟨i + 1, hms, ⟨rfl, ⟨d5, HA5.out⟩, Kept.trans (by with_reducible repeat (first | assumption | apply Kept.drewN | apply Kept.set | exact Kept.refl _ _)) K5⟩, fun key acc K => by rw [HF.out.2 key acc K]; exact hex_bad HB.out key acc K⟩
          | some dg =>
            have h16 := hexDigit_lt hd
            have hnb1 : nib s[i + 1] = (dg : Int) := by unfold nib; rw [hd]
            simp only [hnb1] at hN
            have HN := Lib.hid hN
            have HD := Lib.hid hd
            clear hN hd hnb1
            by_cases hc : 12 ≤ dg
            · have g0 : ¬ ((dg : Int) < 0) := by omega
              have g1 : ((n : Int) == 13) = true := by have := hnn; simp at this ⊢; omega
              have g2 : decide ((12 : Int) ≤ (dg : Int)) = true := by simp; omega
              have g3 : ((12 : Int) ≤ (dg : Int)) := by omega
              have HM := Lib.hid (show hexMay true 1 n dg = true by simp [hexMay]; try omega)
              go_wp2_with fail
              go_quiet (fail)
              go_wp2_with fail
              go_quiet ((go_at_call 107; exact (HN.out _).mono (fun _ _ h => ⟨h.1, _, h.2⟩)))
              go_wp2_with fail
              go_roundg 3
              case measure => rw [HK.out]; omega
              case rel =>
                refine ⟨2, 16 * n + dg, rfl, int_eq (by omega), rfl, by omega, by omega, (HA.out.drewN _).set1 (i + 2), by with_reducible repeat (first | assumption | apply Kept.drewN | apply Kept.set | exact Kept.refl _ _), .inl ⟨by omega, HF.out.step (by omega) (L_get hl) HD.out HM.out⟩⟩
            · have g0 : ¬ ((dg : Int) < 0) := by omega
              have g1 : ((n : Int) == 13) = true := by have := hnn; simp at this ⊢; omega
              have g2 : decide ((12 : Int) ≤ (dg : Int)) = false := by simp; omega
              have g3 : ¬ ((12 : Int) ≤ (dg : Int)) := by omega
              have HB := Lib.hid (show ∀ c d', (L s)[i + 1]? = some c → hexDigit c = some d' → hexMay true 1 n d' = false from fun c d' h1 h2 => by rw [L_get hl] at h1; cases h1; rw [HD.out] at h2; cases h2; simp [hexMay]; omega)
              go_wp2_with fail
              go_quiet (fail)
              go_wp2_with fail
              go_quiet ((go_at_call 107; exact (HN.out _).mono (fun _ _ h => ⟨h.1, _, h.2⟩)))
              go_wp2_with fail
              refine (r_wrong bp s (i + 1) 0 d 40 _ (by exact HA.out)).mono ?_
              rintro e w5 ⟨rfl, ⟨d5, A5⟩, K5⟩
              have HA5 := Lib.hid A5
              clear A5
              go_wp2_with fail
              go_ret2
              exact .inr ⟨i + 1, hms, ⟨rfl, ⟨d5, HA5.out⟩, Kept.trans (by with_reducible repeat (first | assumption | apply Kept.drewN | apply Kept.set | exact Kept.refl _ _)) K5⟩, fun key acc K => by rw [HF.out.2 key acc K]; exact hex_bad HB.out key acc K⟩
        · have hl' : decide (((i + 1 : Nat) : Int) < s.size) = false := by simp; omega
          have hl2 : ¬ (((i + 1 : Nat) : Int) < s.size) := by omega
          have HB := Lib.hid (show ∀ c d', (L s)[i + 1]? = some c → hexDigit c = some d' → hexMay true 1 n d' = false from fun c d' h1 h2 => by rw [L_end (by omega)] at h1; cases h1)
          go_wp2_with fail
          go_quiet (fail)
          go_wp2_with fail
          refine (r_wrong bp s (i + 1) 0 d 40 _ (by exact HA.out)).mono ?_
          rintro e w5 ⟨rfl, ⟨d5, A5⟩, K5⟩
          have HA5 := Lib.hid A5
          clear A5
          go_wp2_with fail
          go_ret2
          exact .inr ⟨i + 1, hms, ⟨rfl, ⟨d5, HA5.out⟩, Kept.trans (by with_reducible repeat (first | assumption | apply Kept.drewN | apply Kept.set | exact Kept.refl _ _)) K5⟩, fun key acc K => by rw [HF.out.2 key acc K]; exact hex_bad HB.out key acc K⟩
      · by_cases hl : i + 2 < s.size
        · have hl' : ((i + 2 : Nat) : Int) < s.size := by omega
          have p0 : (0 : Int) ≤ (i : Int) + 2 := by omega
          have p1 : ((i : Int) + 2).toNat = i + 2 := by omega
          have p2 : (i : Int) + 2 < s.size := by omega
          have hN : ∀ w', Calls Tryz.prog 107 #[.int .u8 s[i + 2].toNat] w' fun e w'' => e = .returned (.int .i64 (nib s[i + 2])) ∧ w'' = w' := fun w' => (r_nibble s[i + 2] w').mono fun _ _ h => ⟨h.1, h.2.symm⟩
          cases hd : hexDigit s[i + 2] with
          | none =>
            have hnb1 : nib s[i + 2] = -1 := by unfold nib; rw [hd]
            simp only [hnb1] at hN
            have HN := Lib.hid hN
            have HB := Lib.hid (show ∀ c d', (L s)[i + 2]? = some c → hexDigit c = some d' → hexMay true 2 n d' = false from fun c d' h1 h2 => by rw [L_get hl] at h1; cases h1; rw [hd] at h2; cases h2)
            clear hN hd hnb1
            go_wp2_with fail
            go_quiet (fail)
            go_wp2_with fail
            go_quiet ((go_at_call 107; exact (HN.out _).mono (fun _ _ h => ⟨h.1, _, h.2⟩)))
            go_wp2_with fail
            refine (r_wrong bp s (i + 2) 0 d 40 _ (by exact HA.out)).mono ?_
            rintro e w5 ⟨rfl, ⟨d5, A5⟩, K5⟩
            have HA5 := Lib.hid A5
            clear A5
            go_wp2_with fail
            go_ret2
            exact .inr ⟨i + 2, hms, ⟨rfl, ⟨d5, HA5.out⟩, Kept.trans (by with_reducible repeat (first | assumption | apply Kept.drewN | apply Kept.set | exact Kept.refl _ _)) K5⟩, fun key acc K => by rw [HF.out.2 key acc K]; exact hex_bad HB.out key acc K⟩
          | some dg =>
            have h16 := hexDigit_lt hd
            have hnb1 : nib s[i + 2] = (dg : Int) := by unfold nib; rw [hd]
            simp only [hnb1] at hN
            have HN := Lib.hid hN
            have HD := Lib.hid hd
            clear hN hd hnb1
            have g0 : ¬ ((dg : Int) < 0) := by omega
            have HM := Lib.hid (show hexMay true 2 n dg = true by simp [hexMay]; try omega)
            go_wp2_with fail
            go_quiet (fail)
            go_wp2_with fail
            go_quiet ((go_at_call 107; exact (HN.out _).mono (fun _ _ h => ⟨h.1, _, h.2⟩)))
            go_wp2_with fail
            go_roundg 2
            case measure => rw [HK.out]; omega
            case rel =>
              refine ⟨3, 16 * n + dg, rfl, int_eq (by omega), rfl, by omega, by omega, (HA.out.drewN _).set1 (i + 3), by with_reducible repeat (first | assumption | apply Kept.drewN | apply Kept.set | exact Kept.refl _ _), .inl ⟨by omega, HF.out.step (by omega) (L_get hl) HD.out HM.out⟩⟩
        · have hl' : decide (((i + 2 : Nat) : Int) < s.size) = false := by simp; omega
          have hl2 : ¬ (((i + 2 : Nat) : Int) < s.size) := by omega
          have HB := Lib.hid (show ∀ c d', (L s)[i + 2]? = some c → hexDigit c = some d' → hexMay true 2 n d' = false from fun c d' h1 h2 => by rw [L_end (by omega)] at h1; cases h1)
          go_wp2_with fail
          go_quiet (fail)
          go_wp2_with fail
          refine (r_wrong bp s (i + 2) 0 d 40 _ (by exact HA.out)).mono ?_
          rintro e w5 ⟨rfl, ⟨d5, A5⟩, K5⟩
          have HA5 := Lib.hid A5
          clear A5
          go_wp2_with fail
          go_ret2
          exact .inr ⟨i + 2, hms, ⟨rfl, ⟨d5, HA5.out⟩, Kept.trans (by with_reducible repeat (first | assumption | apply Kept.drewN | apply Kept.set | exact Kept.refl _ _)) K5⟩, fun key acc K => by rw [HF.out.2 key acc K]; exact hex_bad HB.out key acc K⟩
      · by_cases hl : i + 3 < s.size
        · have hl' : ((i + 3 : Nat) : Int) < s.size := by omega
          have p0 : (0 : Int) ≤ (i : Int) + 3 := by omega
          have p1 : ((i : Int) + 3).toNat = i + 3 := by omega
          have p2 : (i : Int) + 3 < s.size := by omega
          have hN : ∀ w', Calls Tryz.prog 107 #[.int .u8 s[i + 3].toNat] w' fun e w'' => e = .returned (.int .i64 (nib s[i + 3])) ∧ w'' = w' := fun w' => (r_nibble s[i + 3] w').mono fun _ _ h => ⟨h.1, h.2.symm⟩
          cases hd : hexDigit s[i + 3] with
          | none =>
            have hnb1 : nib s[i + 3] = -1 := by unfold nib; rw [hd]
            simp only [hnb1] at hN
            have HN := Lib.hid hN
            have HB := Lib.hid (show ∀ c d', (L s)[i + 3]? = some c → hexDigit c = some d' → hexMay true 3 n d' = false from fun c d' h1 h2 => by rw [L_get hl] at h1; cases h1; rw [hd] at h2; cases h2)
            clear hN hd hnb1
            go_wp2_with fail
            go_quiet (fail)
            go_wp2_with fail
            go_quiet ((go_at_call 107; exact (HN.out _).mono (fun _ _ h => ⟨h.1, _, h.2⟩)))
            go_wp2_with fail
            refine (r_wrong bp s (i + 3) 0 d 40 _ (by exact HA.out)).mono ?_
            rintro e w5 ⟨rfl, ⟨d5, A5⟩, K5⟩
            have HA5 := Lib.hid A5
            clear A5
            go_wp2_with fail
            go_ret2
            exact .inr ⟨i + 3, hms, ⟨rfl, ⟨d5, HA5.out⟩, Kept.trans (by with_reducible repeat (first | assumption | apply Kept.drewN | apply Kept.set | exact Kept.refl _ _)) K5⟩, fun key acc K => by rw [HF.out.2 key acc K]; exact hex_bad HB.out key acc K⟩
          | some dg =>
            have h16 := hexDigit_lt hd
            have hnb1 : nib s[i + 3] = (dg : Int) := by unfold nib; rw [hd]
            simp only [hnb1] at hN
            have HN := Lib.hid hN
            have HD := Lib.hid hd
            clear hN hd hnb1
            have g0 : ¬ ((dg : Int) < 0) := by omega
            have HM := Lib.hid (show hexMay true 3 n dg = true by simp [hexMay]; try omega)
            go_wp2_with fail
            go_quiet (fail)
            go_wp2_with fail
            go_quiet ((go_at_call 107; exact (HN.out _).mono (fun _ _ h => ⟨h.1, _, h.2⟩)))
            go_wp2_with fail
            go_roundg 1
            case measure => rw [HK.out]; omega
            case rel =>
              refine ⟨4, 16 * n + dg, rfl, int_eq (by omega), rfl, by omega, by omega, (HA.out.drewN _).set1 (i + 4), by with_reducible repeat (first | assumption | apply Kept.drewN | apply Kept.set | exact Kept.refl _ _), .inr ⟨rfl, n, dg, _, rfl, HF.out, L_get hl, HD.out, HM.out⟩⟩
        · have hl' : decide (((i + 3 : Nat) : Int) < s.size) = false := by simp; omega
          have hl2 : ¬ (((i + 3 : Nat) : Int) < s.size) := by omega
          have HB := Lib.hid (show ∀ c d', (L s)[i + 3]? = some c → hexDigit c = some d' → hexMay true 3 n d' = false from fun c d' h1 h2 => by rw [L_end (by omega)] at h1; cases h1)
          go_wp2_with fail
          go_quiet (fail)
          go_wp2_with fail
          refine (r_wrong bp s (i + 3) 0 d 40 _ (by exact HA.out)).mono ?_
          rintro e w5 ⟨rfl, ⟨d5, A5⟩, K5⟩
          have HA5 := Lib.hid A5
          clear A5
          go_wp2_with fail
          go_ret2
          exact .inr ⟨i + 3, hms, ⟨rfl, ⟨d5, HA5.out⟩, Kept.trans (by with_reducible repeat (first | assumption | apply Kept.drewN | apply Kept.set | exact Kept.refl _ _)) K5⟩, fun key acc K => by rw [HF.out.2 key acc K]; exact hex_bad HB.out key acc K⟩
    · obtain ⟨rfl, n', dg, c, rfl, hF, h1, h2, h3⟩ := hF
      have HF := Lib.hid hF
      have H1 := Lib.hid h1
      have H2 := Lib.hid h2
      have H3 := Lib.hid h3
      have HA := Lib.hid hA
      have h16 := hexDigit_lt h2
      have hnn := hF.1
      clear hF h1 h2 h3 hA
      go_wp2_with fail
      go_ret2
      refine .inl ⟨n', dg, by omega, by omega, ⟨c, H1.out, H2.out, H3.out⟩, fun hlo => ?_, ⟨rfl, HA.out, hK⟩, HF.out.2⟩
      simp at hnn hlo
      try omega

end Jot
end Go.Proofs.YthgcnmdnjfajbaaGreatDoor
