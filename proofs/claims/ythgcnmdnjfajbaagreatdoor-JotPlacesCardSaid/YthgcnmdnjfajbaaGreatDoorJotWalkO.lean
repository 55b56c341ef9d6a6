/- Walk of package jot: value, at every depth. Conditions: a parser that stands in its text. -/
import Derived.Test.YthgcnmdnjfajbaaGreatDoorJotWalkN
import Derived.Test.YthgcnmdnjfajbaaGreatDoorJotWalkF
import Derived.Test.YthgcnmdnjfajbaaGreatDoorJotPlainW
namespace Go.Proofs.YthgcnmdnjfajbaaGreatDoor
open Go.RowKit
namespace Jot

/-- value's switch: at the byte j, blanks behind it. -/
def StartPost (bp : Nat) (s : ByteArray) (w : World) (i d : Nat) (e : Ending) (w' : World) : Prop := ValPost bp s w i d e w'

section
variable (bp : Nat) (s : ByteArray) (i d : Nat) (w : World)

set_option maxRecDepth 100000 in
set_option maxHeartbeats 1000000 in
theorem value_end (h : At w bp s i d) (hi : i ≤ s.size) (hs : s.size ≤ 4000) (hb : Blanks s i s.size) :
    Calls Tryz.prog 11 #[.pointer (some ⟨bp, 0, none⟩)] w (ValPost bp s w i d) := by
  have HBL := Lib.hid (blanks_any bp s i d w h hi hs)
  have HB := Lib.hid hb
  clear h hb
  go_enter Tryz.func11, Tryz.ntmps11
  go_wp2_with fail
  refine (HBL.out).mono ?_
  rintro e w1 ⟨j', hj', rfl, A1, K1⟩
  obtain rfl : s.size = j' := blanks_one HB.out hj'
  have HA := Lib.hid A1
  clear A1 hj'
  go_wp2_with fail
  refine (here_end bp s d _ (by exact HA.out)).mono ?_
  rintro e w2 ⟨rfl, n1, rfl⟩
  go_wp2_with fail
  refine ⟨rfl, .inr ⟨40, s.size, Nat.le_refl _, ⟨rfl, K1.drewN n1⟩, fun K hK => ?_⟩⟩
  rw [HB.out.R (blank_val _), val_end (by rw [L_len]; exact Nat.le_refl _)]
  rfl

set_option maxRecDepth 100000 in
set_option maxHeartbeats 1000000 in
theorem value_null (h : At w bp s i d) (hi : i ≤ s.size) (hs : s.size ≤ 4000) (j : Nat) (hb : Blanks s i j) (hj : j < s.size) (hc : s[j].toNat = 110) :
    Calls Tryz.prog 11 #[.pointer (some ⟨bp, 0, none⟩)] w (ValPost bp s w i d) := by
  have HBL := Lib.hid (blanks_any bp s i d w h hi hs)
  have HB := Lib.hid hb
  have hij := hb.1
  have HC := Lib.hid (show (L s)[j]? = some 110 by rw [L_get hj]; exact congrArg some (UInt8.toNat_inj.1 hc))
  have t110 : ((s[j].toNat : Int) == 110) = true := by simp [hc]
  clear h hb hc
  go_enter Tryz.func11, Tryz.ntmps11
  go_wp2_with fail
  refine (HBL.out).mono ?_
  rintro e w1 ⟨j', hj', rfl, A1, K1⟩
  obtain rfl : j = j' := blanks_one HB.out hj'
  have HA := Lib.hid A1
  have hsz1 := K1.size
  clear A1 hj'
  go_wp2_with fail
  refine (here_some bp s j d _ (by exact HA.out) hj).mono ?_
  rintro e w2 ⟨rfl, n1, rfl⟩
  go_wp2_with fail
  refine (word_any bp s ⟨#[110, 117, 108, 108]⟩ j d _ (by exact HA.out) (by omega) hs (by decide)).mono ?_
  rintro e w3 (⟨hm, rfl, A3, K3⟩ | ⟨k, hk, hmk, hnk, rfl, K3⟩)
  · have HM := Lib.hid hm
    have HA3 := Lib.hid A3
    clear hm A3
    go_wp2_with fail
    go_ret
    have hR := fun K => word_R (l := L s) (j := j) (c := 110) (r := [117, 108, 108]) (v := .null) (by simp) (fun K => by simp [dVal, isBlank]) (fun k hk => HM.out k hk) K
    have hle : j + 4 ≤ s.size := by
      have := HM.out 3 (by decide)
      have h2 : (L s)[j + 3]? = some 108 := this
      have := (List.getElem?_eq_some_iff.1 h2).1; rw [L_len] at this; omega
    refine .inl ⟨_, _, .null, j + 4, by omega, hle, ⟨rfl, HA3.out, K1.trans (((Kept.refl _ _).drewN n1).trans K3)⟩, rfl, fun K hK => ?_⟩
    rw [HB.out.R (blank_val _), hR K]
    rfl
  · have HMK := Lib.hid hmk
    have HNK := Lib.hid hnk
    have hk' : k < 4 := hk
    clear hmk hnk hk
    go_wp2_with fail
    have hle : j + k ≤ (L s).length := word_le (ws := [110, 117, 108, 108]) (by rw [L_len]; omega) hk' HMK.out
    refine ⟨rfl, .inr ⟨40, j + k, by rw [← L_len]; exact hle, ⟨rfl, K1.trans (((Kept.refl _ _).drewN n1).trans K3)⟩, fun K hK => ?_⟩⟩
    rw [HB.out.R (blank_val _)]
    exact word_R_bad (c := 110) (r := [117, 108, 108]) (v := .null) (fun K => by simp [dVal, isBlank]) HC.out hk' HMK.out HNK.out hle K

set_option maxRecDepth 100000 in
set_option maxHeartbeats 1000000 in
theorem value_false (h : At w bp s i d) (hi : i ≤ s.size) (hs : s.size ≤ 4000) (j : Nat) (hb : Blanks s i j) (hj : j < s.size) (hc : s[j].toNat = 102) :
    Calls Tryz.prog 11 #[.pointer (some ⟨bp, 0, none⟩)] w (ValPost bp s w i d) := by
  have HBL := Lib.hid (blanks_any bp s i d w h hi hs)
  have HB := Lib.hid hb
  have hij := hb.1
  have HC := Lib.hid (show (L s)[j]? = some 102 by rw [L_get hj]; exact congrArg some (UInt8.toNat_inj.1 hc))
  have t110 : ((s[j].toNat : Int) == 110) = false := by simp [hc]
  have t102 : ((s[j].toNat : Int) == 102) = true := by simp [hc]
  clear h hb hc
  go_enter Tryz.func11, Tryz.ntmps11
  go_wp2_with fail
  refine (HBL.out).mono ?_
  rintro e w1 ⟨j', hj', rfl, A1, K1⟩
  obtain rfl : j = j' := blanks_one HB.out hj'
  have HA := Lib.hid A1
  have hsz1 := K1.size
  clear A1 hj'
  go_wp2_with fail
  refine (here_some bp s j d _ (by exact HA.out) hj).mono ?_
  rintro e w2 ⟨rfl, n1, rfl⟩
  go_wp2_with fail
  refine (word_any bp s ⟨#[102, 97, 108, 115, 101]⟩ j d _ (by exact HA.out) (by omega) hs (by decide)).mono ?_
  rintro e w3 (⟨hm, rfl, A3, K3⟩ | ⟨k, hk, hmk, hnk, rfl, K3⟩)
  · have HM := Lib.hid hm
    have HA3 := Lib.hid A3
    clear hm A3
    go_wp2_with fail
    go_ret
    have hR := fun K => word_R (l := L s) (j := j) (c := 102) (r := [97, 108, 115, 101]) (v := (.truth false)) (by simp) (fun K => by simp [dVal, isBlank]) (fun k hk => HM.out k hk) K
    have hle : j + 5 ≤ s.size := by
      have := HM.out 4 (by decide)
      have h2 : (L s)[j + 4]? = some 101 := this
      have := (List.getElem?_eq_some_iff.1 h2).1; rw [L_len] at this; omega
    refine .inl ⟨_, _, (.truth false), j + 5, by omega, hle, ⟨rfl, HA3.out, K1.trans (((Kept.refl _ _).drewN n1).trans K3)⟩, rfl, fun K hK => ?_⟩
    rw [HB.out.R (blank_val _), hR K]
    rfl
  · have HMK := Lib.hid hmk
    have HNK := Lib.hid hnk
    have hk' : k < 5 := hk
    clear hmk hnk hk
    go_wp2_with fail
    have hle : j + k ≤ (L s).length := word_le (ws := [102, 97, 108, 115, 101]) (by rw [L_len]; omega) hk' HMK.out
    refine ⟨rfl, .inr ⟨40, j + k, by rw [← L_len]; exact hle, ⟨rfl, K1.trans (((Kept.refl _ _).drewN n1).trans K3)⟩, fun K hK => ?_⟩⟩
    rw [HB.out.R (blank_val _)]
    exact word_R_bad (c := 102) (r := [97, 108, 115, 101]) (v := (.truth false)) (fun K => by simp [dVal, isBlank]) HC.out hk' HMK.out HNK.out hle K

set_option maxRecDepth 100000 in
set_option maxHeartbeats 1000000 in
theorem value_true (h : At w bp s i d) (hi : i ≤ s.size) (hs : s.size ≤ 4000) (j : Nat) (hb : Blanks s i j) (hj : j < s.size) (hc : s[j].toNat = 116) :
    Calls Tryz.prog 11 #[.pointer (some ⟨bp, 0, none⟩)] w (ValPost bp s w i d) := by
  have HBL := Lib.hid (blanks_any bp s i d w h hi hs)
  have HB := Lib.hid hb
  have hij := hb.1
  have HC := Lib.hid (show (L s)[j]? = some 116 by rw [L_get hj]; exact congrArg some (UInt8.toNat_inj.1 hc))
  have t110 : ((s[j].toNat : Int) == 110) = false := by simp [hc]
  have t102 : ((s[j].toNat : Int) == 102) = false := by simp [hc]
  have t116 : ((s[j].toNat : Int) == 116) = true := by simp [hc]
  clear h hb hc
  go_enter Tryz.func11, Tryz.ntmps11
  go_wp2_with fail
  refine (HBL.out).mono ?_
  rintro e w1 ⟨j', hj', rfl, A1, K1⟩
  obtain rfl : j = j' := blanks_one HB.out hj'
  have HA := Lib.hid A1
  have hsz1 := K1.size
  clear A1 hj'
  go_wp2_with fail
  refine (here_some bp s j d _ (by exact HA.out) hj).mono ?_
  rintro e w2 ⟨rfl, n1, rfl⟩
  go_wp2_with fail
  refine (word_any bp s ⟨#[116, 114, 117, 101]⟩ j d _ (by exact HA.out) (by omega) hs (by decide)).mono ?_
  rintro e w3 (⟨hm, rfl, A3, K3⟩ | ⟨k, hk, hmk, hnk, rfl, K3⟩)
  · have HM := Lib.hid hm
    have HA3 := Lib.hid A3
    clear hm A3
    go_wp2_with fail
    go_ret
    have hR := fun K => word_R (l := L s) (j := j) (c := 116) (r := [114, 117, 101]) (v := (.truth true)) (by simp) (fun K => by simp [dVal, isBlank]) (fun k hk => HM.out k hk) K
    have hle : j + 4 ≤ s.size := by
      have := HM.out 3 (by decide)
      have h2 : (L s)[j + 3]? = some 101 := this
      have := (List.getElem?_eq_some_iff.1 h2).1; rw [L_len] at this; omega
    refine .inl ⟨_, _, (.truth true), j + 4, by omega, hle, ⟨rfl, HA3.out, K1.trans (((Kept.refl _ _).drewN n1).trans K3)⟩, rfl, fun K hK => ?_⟩
    rw [HB.out.R (blank_val _), hR K]
    rfl
  · have HMK := Lib.hid hmk
    have HNK := Lib.hid hnk
    have hk' : k < 4 := hk
    clear hmk hnk hk
    go_wp2_with fail
    have hle : j + k ≤ (L s).length := word_le (ws := [116, 114, 117, 101]) (by rw [L_len]; omega) hk' HMK.out
    refine ⟨rfl, .inr ⟨40, j + k, by rw [← L_len]; exact hle, ⟨rfl, K1.trans (((Kept.refl _ _).drewN n1).trans K3)⟩, fun K hK => ?_⟩⟩
    rw [HB.out.R (blank_val _)]
    exact word_R_bad (c := 116) (r := [114, 117, 101]) (v := (.truth true)) (fun K => by simp [dVal, isBlank]) HC.out hk' HMK.out HNK.out hle K

set_option maxRecDepth 100000 in
set_option maxHeartbeats 1000000 in
theorem value_text (h : At w bp s i d) (hi : i ≤ s.size) (hs : s.size ≤ 4000) (j : Nat) (hb : Blanks s i j) (hj : j < s.size) (hc : s[j].toNat = 34) :
    Calls Tryz.prog 11 #[.pointer (some ⟨bp, 0, none⟩)] w (ValPost bp s w i d) := by
  have HBL := Lib.hid (blanks_any bp s i d w h hi hs)
  have HB := Lib.hid hb
  have hij := hb.1
  have HC := Lib.hid (show (L s)[j]? = some 34 by rw [L_get hj]; exact congrArg some (UInt8.toNat_inj.1 hc))
  have t110 : ((s[j].toNat : Int) == 110) = false := by simp [hc]
  have t102 : ((s[j].toNat : Int) == 102) = false := by simp [hc]
  have t116 : ((s[j].toNat : Int) == 116) = false := by simp [hc]
  have t34 : ((s[j].toNat : Int) == 34) = true := by simp [hc]
  clear h hb hc
  go_enter Tryz.func11, Tryz.ntmps11
  go_wp2_with fail
  refine (HBL.out).mono ?_
  rintro e w1 ⟨j', hj', rfl, A1, K1⟩
  obtain rfl : j = j' := blanks_one HB.out hj'
  have HA := Lib.hid A1
  have hsz1 := K1.size
  clear A1 hj'
  go_wp2_with fail
  refine (here_some bp s j d _ (by exact HA.out) hj).mono ?_
  rintro e w2 ⟨rfl, n1, rfl⟩
  go_wp2_with fail
  refine (text_any bp s j d (.map none) [] _ (by exact HA.out) hs hj (by rw [L_get hj] at HC; exact congrArg UInt8.toNat (Option.some.inj HC.out)) (.inl ⟨rfl, rfl⟩) (fun b hb => by cases hb)).mono ?_
  rintro e w3 (⟨acc, jq, hjq, hq34, ⟨rfl, A3, K3⟩, hnin, hacc, hR3⟩ | ⟨p, hp, ⟨rfl, K3⟩, hR3⟩ | ⟨acc, jq, hq34, hg, hin, hR3⟩)
  · have HQ := Lib.hid hq34
    have HR3 := Lib.hid hR3
    have HA3 := Lib.hid A3
    have hjqs : jq < s.size := by have := (List.getElem?_eq_some_iff.1 hq34).1; rwa [L_len] at this
    clear hq34 hR3 A3 hnin
    go_wp2_with fail
    go_ret
    refine .inl ⟨_, _, .text acc, jq + 1, by omega, by omega, ⟨rfl, HA3.out, K1.trans (((Kept.refl _ _).drewN n1).trans K3)⟩, rfl, fun K hK => ?_⟩
    rw [HB.out.R (blank_val _), val_quote HC.out, HR3.out, text_close HQ.out]
  · have HR3 := Lib.hid hR3
    clear hR3
    go_wp2_with fail
    refine ⟨rfl, .inr ⟨40, p, hp, ⟨rfl, K1.trans (((Kept.refl _ _).drewN n1).trans K3)⟩, fun K hK => ?_⟩⟩
    rw [HB.out.R (blank_val _), val_quote HC.out, HR3.out]
    rfl
  · exact absurd hin (by simp)

set_option maxRecDepth 100000 in
set_option maxHeartbeats 1000000 in
theorem value_list (h : At w bp s i d) (hi : i ≤ s.size) (hs : s.size ≤ 4000) (j : Nat) (hb : Blanks s i j) (hj : j < s.size) (hc : s[j].toNat = 91) (hcall : ∀ w2, At w2 bp s j d → Calls Tryz.prog 24 #[.pointer (some ⟨bp, 0, none⟩)] w2 (ValPost bp s w2 j d)) :
    Calls Tryz.prog 11 #[.pointer (some ⟨bp, 0, none⟩)] w (ValPost bp s w i d) := by
  have HBL := Lib.hid (blanks_any bp s i d w h hi hs)
  have HB := Lib.hid hb
  have hij := hb.1
  have HC := Lib.hid (show (L s)[j]? = some 91 by rw [L_get hj]; exact congrArg some (UInt8.toNat_inj.1 hc))
  have t110 : ((s[j].toNat : Int) == 110) = false := by simp [hc]
  have t102 : ((s[j].toNat : Int) == 102) = false := by simp [hc]
  have t116 : ((s[j].toNat : Int) == 116) = false := by simp [hc]
  have t34 : ((s[j].toNat : Int) == 34) = false := by simp [hc]
  have t91 : ((s[j].toNat : Int) == 91) = true := by simp [hc]
  have HCALL := Lib.hid hcall
  clear hcall
  clear h hb hc
  go_enter Tryz.func11, Tryz.ntmps11
  go_wp2_with fail
  refine (HBL.out).mono ?_
  rintro e w1 ⟨j', hj', rfl, A1, K1⟩
  obtain rfl : j = j' := blanks_one HB.out hj'
  have HA := Lib.hid A1
  have hsz1 := K1.size
  clear A1 hj'
  go_wp2_with fail
  refine (here_some bp s j d _ (by exact HA.out) hj).mono ?_
  rintro e w2 ⟨rfl, n1, rfl⟩
  go_wp2_with fail
  refine (HCALL.out _ (by exact HA.out)).mono ?_
  rintro e w3 (⟨t, x, jv, j3, hjj, hj3s, ⟨rfl, A3, K3⟩, hv3, hR3⟩ | ⟨k, p, hp, ⟨rfl, K3⟩, hR3⟩)
  · have HA3 := Lib.hid A3
    have HV3 := Lib.hid hv3
    have HR3 := Lib.hid hR3
    clear A3 hv3 hR3
    go_wp2_with fail
    go_ret
    refine .inl ⟨t, x, jv, j3, by omega, hj3s, ⟨rfl, HA3.out, K1.trans (((Kept.refl _ _).drewN n1).trans K3)⟩, ?_, fun K hK => ?_⟩
    · refine IsVal.move (fun b hb hlt => ⟨rfl, ?_⟩) _ _ HV3.out
      have hb' : w1.heap.size ≤ b := hb
      show w.heap.size ≤ b
      omega
    · rw [HB.out.R (blank_val _)]
      exact HR3.out K hK
  · have HR3 := Lib.hid hR3
    clear hR3
    go_wp2_with fail
    refine ⟨rfl, .inr ⟨k, p, hp, ⟨rfl, K1.trans (((Kept.refl _ _).drewN n1).trans K3)⟩, fun K hK => ?_⟩⟩
    rw [HB.out.R (blank_val _)]
    exact HR3.out K hK

set_option maxRecDepth 100000 in
set_option maxHeartbeats 1000000 in
theorem value_object (h : At w bp s i d) (hi : i ≤ s.size) (hs : s.size ≤ 4000) (j : Nat) (hb : Blanks s i j) (hj : j < s.size) (hc : s[j].toNat = 123) (hcall : ∀ w2, At w2 bp s j d → Calls Tryz.prog 25 #[.pointer (some ⟨bp, 0, none⟩)] w2 (ValPost bp s w2 j d)) :
    Calls Tryz.prog 11 #[.pointer (some ⟨bp, 0, none⟩)] w (ValPost bp s w i d) := by
  have HBL := Lib.hid (blanks_any bp s i d w h hi hs)
  have HB := Lib.hid hb
  have hij := hb.1
  have HC := Lib.hid (show (L s)[j]? = some 123 by rw [L_get hj]; exact congrArg some (UInt8.toNat_inj.1 hc))
  have t110 : ((s[j].toNat : Int) == 110) = false := by simp [hc]
  have t102 : ((s[j].toNat : Int) == 102) = false := by simp [hc]
  have t116 : ((s[j].toNat : Int) == 116) = false := by simp [hc]
  have t34 : ((s[j].toNat : Int) == 34) = false := by simp [hc]
  have t91 : ((s[j].toNat : Int) == 91) = false := by simp [hc]
  have t123 : ((s[j].toNat : Int) == 123) = true := by simp [hc]
  have HCALL := Lib.hid hcall
  clear hcall
  clear h hb hc
  go_enter Tryz.func11, Tryz.ntmps11
  go_wp2_with fail
  refine (HBL.out).mono ?_
  rintro e w1 ⟨j', hj', rfl, A1, K1⟩
  obtain rfl : j = j' := blanks_one HB.out hj'
  have HA := Lib.hid A1
  have hsz1 := K1.size
  clear A1 hj'
  go_wp2_with fail
  refine (here_some bp s j d _ (by exact HA.out) hj).mono ?_
  rintro e w2 ⟨rfl, n1, rfl⟩
  go_wp2_with fail
  refine (HCALL.out _ (by exact HA.out)).mono ?_
  rintro e w3 (⟨t, x, jv, j3, hjj, hj3s, ⟨rfl, A3, K3⟩, hv3, hR3⟩ | ⟨k, p, hp, ⟨rfl, K3⟩, hR3⟩)
  · have HA3 := Lib.hid A3
    have HV3 := Lib.hid hv3
    have HR3 := Lib.hid hR3
    clear A3 hv3 hR3
    go_wp2_with fail
    go_ret
    refine .inl ⟨t, x, jv, j3, by omega, hj3s, ⟨rfl, HA3.out, K1.trans (((Kept.refl _ _).drewN n1).trans K3)⟩, ?_, fun K hK => ?_⟩
    · refine IsVal.move (fun b hb hlt => ⟨rfl, ?_⟩) _ _ HV3.out
      have hb' : w1.heap.size ≤ b := hb
      show w.heap.size ≤ b
      omega
    · rw [HB.out.R (blank_val _)]
      exact HR3.out K hK
  · have HR3 := Lib.hid hR3
    clear hR3
    go_wp2_with fail
    refine ⟨rfl, .inr ⟨k, p, hp, ⟨rfl, K1.trans (((Kept.refl _ _).drewN n1).trans K3)⟩, fun K hK => ?_⟩⟩
    rw [HB.out.R (blank_val _)]
    exact HR3.out K hK

set_option maxRecDepth 100000 in
set_option maxHeartbeats 1000000 in
theorem value_num (h : At w bp s i d) (hi : i ≤ s.size) (hs : s.size ≤ 4000) (j : Nat) (hb : Blanks s i j) (hj : j < s.size) (hn : NumStart s[j]) :
    Calls Tryz.prog 11 #[.pointer (some ⟨bp, 0, none⟩)] w (ValPost bp s w i d) := by
  have HBL := Lib.hid (blanks_any bp s i d w h hi hs)
  have HB := Lib.hid hb
  have hij := hb.1
  have HN := Lib.hid hn
  obtain ⟨_, n1, n2, n3, n4, n5, n6⟩ := hn
  have t110 : ((s[j].toNat : Int) == 110) = false := by
    have := toNat_ne n1
    simp at this ⊢; omega
  have t102 : ((s[j].toNat : Int) == 102) = false := by
    have := toNat_ne n2
    simp at this ⊢; omega
  have t116 : ((s[j].toNat : Int) == 116) = false := by
    have := toNat_ne n3
    simp at this ⊢; omega
  have t34 : ((s[j].toNat : Int) == 34) = false := by
    have := toNat_ne n4
    simp at this ⊢; omega
  have t91 : ((s[j].toNat : Int) == 91) = false := by
    have := toNat_ne n5
    simp at this ⊢; omega
  have t123 : ((s[j].toNat : Int) == 123) = false := by
    have := toNat_ne n6
    simp at this ⊢; omega
  clear h hb n1 n2 n3 n4 n5 n6
  go_enter Tryz.func11, Tryz.ntmps11
  go_wp2_with fail
  refine (HBL.out).mono ?_
  rintro e w1 ⟨j', hj', rfl, A1, K1⟩
  obtain rfl : j = j' := blanks_one HB.out hj'
  have HA := Lib.hid A1
  clear A1 hj'
  go_wp2_with fail
  refine (here_some bp s j d _ (by exact HA.out) hj).mono ?_
  rintro e w2 ⟨rfl, m1, rfl⟩
  go_wp2_with fail
  refine (number_any bp s j d _ (by exact HA.out) hj hs HN.out).mono ?_
  rintro e w3 (⟨v, j3, hjj, hj3s, ⟨rfl, A3, K3⟩, hR3⟩ | ⟨k, p, ⟨rfl, K3⟩, hp, hR3⟩)
  · have HA3 := Lib.hid A3
    have HR3 := Lib.hid hR3
    clear A3 hR3
    go_wp2_with fail
    go_ret
    refine .inl ⟨_, _, .num v, j3, by omega, hj3s, ⟨rfl, HA3.out, K1.trans (((Kept.refl _ _).drewN m1).trans K3)⟩, rfl, fun K hK => ?_⟩
    rw [HB.out.R (blank_val _)]
    exact HR3.out K
  · have HR3 := Lib.hid hR3
    clear hR3
    go_wp2_with fail
    refine ⟨rfl, .inr ⟨k, p, hp, ⟨rfl, K1.trans (((Kept.refl _ _).drewN m1).trans K3)⟩, fun K hK => ?_⟩⟩
    rw [HB.out.R (blank_val _)]
    exact HR3.out K

end

theorem blanks_ex (s : ByteArray) (i : Nat) (hi : i ≤ s.size) : ∃ j, Blanks s i j := by
  have H : ∀ n i, i ≤ s.size → s.size - i ≤ n → ∃ j, Blanks s i j := by
    intro n
    induction n with
    | zero => intro i h1 h2; exact ⟨i, Nat.le_refl _, h1, fun k c a b => by omega, fun c hc => by rw [L_end (by omega)] at hc; cases hc⟩
    | succ n ih =>
      intro i h1 h2
      by_cases hl : i < s.size
      · by_cases hb : isBlank s[i] = true
        · obtain ⟨j, g1, g2, g3, g4⟩ := ih (i + 1) (by omega) (by omega)
          refine ⟨j, by omega, g2, fun k c a b hc => ?_, g4⟩
          by_cases hk : k = i
          · subst hk; rw [L_get hl] at hc; cases hc; exact hb
          · exact g3 k c (by omega) b hc
        · exact ⟨i, Nat.le_refl _, h1, fun k c a b => by omega, fun c hc => by rw [L_get hl] at hc; cases hc; simpa using hb⟩
      · exact ⟨i, Nat.le_refl _, h1, fun k c a b => by omega, fun c hc => by rw [L_end (by omega)] at hc; cases hc⟩
  exact H _ i hi (Nat.le_refl _)

theorem value_step (s : ByteArray) (d : Nat) (hs : s.size ≤ 4000) (hd : d ≤ 16) (hval : d < 16 → ValueAt s (d + 1)) : ValueAt s d := by
  intro bp i w h hi
  obtain ⟨j, hb⟩ := blanks_ex s i hi
  by_cases hj : j < s.size
  · have hl := L_get hj
    by_cases h110 : s[j] = 110
    · exact value_null bp s i d w h hi hs j hb hj (by rw [h110]; rfl)
    by_cases h102 : s[j] = 102
    · exact value_false bp s i d w h hi hs j hb hj (by rw [h102]; rfl)
    by_cases h116 : s[j] = 116
    · exact value_true bp s i d w h hi hs j hb hj (by rw [h116]; rfl)
    by_cases h34 : s[j] = 34
    · exact value_text bp s i d w h hi hs j hb hj (by rw [h34]; rfl)
    by_cases h91 : s[j] = 91
    · refine value_list bp s i d w h hi hs j hb hj (by rw [h91]; rfl) fun w2 h2 => ?_
      by_cases h16 : d = 16
      · subst h16; exact list_deep bp s j w2 h2 hj (by rw [hl, h91])
      · exact list_any bp s j d w2 h2 hj hs (by rw [hl, h91]) (by omega) (hval (by omega))
    by_cases h123 : s[j] = 123
    · refine value_object bp s i d w h hi hs j hb hj (by rw [h123]; rfl) fun w2 h2 => ?_
      by_cases h16 : d = 16
      · subst h16; exact object_deep bp s j w2 h2 hj (by rw [hl, h123])
      · exact object_any bp s j d w2 h2 hj hs (by rw [hl, h123]) (by omega) (hval (by omega))
    · exact value_num bp s i d w h hi hs j hb hj ⟨hb.2.2.2 _ hl, h110, h102, h116, h34, h91, h123⟩
  · obtain rfl : j = s.size := by have := hb.2.1; omega
    exact value_end bp s i d w h hi hs hb

/-- value, at every depth. -/
theorem value_any (s : ByteArray) (hs : s.size ≤ 4000) : ∀ d, d ≤ 16 → ValueAt s d := by
  have H : ∀ n d, d ≤ 16 → 16 - d ≤ n → ValueAt s d := by
    intro n
    induction n with
    | zero => intro d h1 h2; exact value_step s d hs h1 (fun hlt => by omega)
    | succ n ih => intro d h1 h2; exact value_step s d hs h1 (fun hlt => ih (d + 1) (by omega) (by omega))
  exact fun d hd => H _ d hd (Nat.le_refl _)

#print axioms value_any

end Jot
end Go.Proofs.YthgcnmdnjfajbaaGreatDoor
