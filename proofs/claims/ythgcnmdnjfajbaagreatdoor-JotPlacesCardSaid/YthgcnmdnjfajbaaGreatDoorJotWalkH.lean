/- Walk of package jot: point. Conditions: a parser that stands in its text. -/
import Derived.Test.YthgcnmdnjfajbaaGreatDoorJotWalkB
import Derived.Test.YthgcnmdnjfajbaaGreatDoorJotWalkC
import Derived.Test.YthgcnmdnjfajbaaGreatDoorJotPlainT
namespace Go.Proofs.YthgcnmdnjfajbaaGreatDoor
open Go.RowKit
namespace Jot

def HexAny (bp : Nat) (s : ByteArray) (w : World) (i d : Nat) (low high : Int) (e : Ending) (w' : World) : Prop :=
  (∃ (c : UInt8) (n : Nat), (L s)[i]? = some c ∧ hexDigit c = some n ∧ low ≤ n ∧ n ≤ high ∧ i < s.size ∧ Went bp s w (.int .i64 n) (i + 1) d e w') ∨
  ((∀ c (n : Nat), (L s)[i]? = some c → hexDigit c = some n → ¬ (low ≤ n ∧ n ≤ high)) ∧ Gave bp w 40 i e w')

theorem hex_any (bp : Nat) (s : ByteArray) (i d : Nat) (low high : Int) (w : World) (h : At w bp s i d) (hi : i ≤ s.size) (hs : s.size ≤ 4000) (hl : 0 ≤ low) (hh : high ≤ 15) :
    Calls Tryz.prog 77 #[.pointer (some ⟨bp, 0, none⟩), .int .i64 low, .int .i64 high] w (HexAny bp s w i d low high) := by
  by_cases hlt : i < s.size
  · refine (hex_some bp s i d low high w h hlt hs hl hh).mono fun e w' hw => ?_
    rcases hw with ⟨n, h1, h2, h3, m, rfl, h4⟩ | ⟨h1, h2⟩
    · exact .inl ⟨_, n, L_get hlt, h1, h2, h3, hlt, h4⟩
    · exact .inr ⟨fun c n hc hn => by rw [L_get hlt] at hc; cases hc; exact h1 n hn, h2⟩
  · obtain rfl : i = s.size := by omega
    exact (hex_end bp s d low high w h).mono fun e w' hw => .inr ⟨fun c n hc => (by rw [L_end (Nat.le_refl _)] at hc; cases hc), hw⟩

theorem hex_le {c : UInt8} {n : Nat} (h : hexDigit c = some n) : n ≤ 15 := by rcases hex_of h with h | h | h <;> omega

theorem or_nib (a b : Nat) (ha : a < 65536) (hb : b ≤ 15) : bits .or .i64 ((a : Int) * 16) (b : Int) = ((16 * a + b : Nat) : Int) := by
  have hk : ∀ n : Int, 0 ≤ n → n < 2 ^ 62 → IntKind.i64.wrap n = n := by intro n h0 h1; rw [IntKind.wrap_i64]; omega
  rw [bits_join .i64 62 (by decide) hk 4 _ _ (by omega) (by omega) (by omega) (by omega) (by omega) (by omega)]
  omega

/-- The number that two parts say, under a name. -/
theorem named (a b : Nat) (ha : a < 65536) (hb : b ≤ 15) : ∃ m : Nat, bits .or .i64 ((a : Int) * 16) (b : Int) = (m : Int) ∧ m = 16 * a + b := ⟨_, or_nib a b ha hb, rfl⟩

def PointPost (bp : Nat) (s : ByteArray) (w : World) (i d : Nat) (e : Ending) (w' : World) : Prop :=
  (∃ (r j : Nat) (v : Int), i < j ∧ j ≤ s.size ∧ r < 0x110000 ∧ ¬ (0xd800 ≤ r ∧ r ≤ 0xdfff) ∧ v = r ∧ Went bp s w (.int .i32 v) j d e w' ∧
    ∀ key acc k, R (L s) i ⟨.text key (.hex 0 0) acc, k⟩ = R (L s) j ⟨.text key .plain (acc ++ utf8 r), k⟩) ∨
  (∃ p, p ≤ s.size ∧ Gave bp w 40 p e w' ∧ ∀ key acc k, R (L s) i ⟨.text key (.hex 0 0) acc, k⟩ = .bad eForm p)

/-- The same from another place on, in the middle of a row of hexadecimal digits: what is left to do. -/
def LowPost (bp : Nat) (s : ByteArray) (w : World) (i d : Nat) (e : Ending) (w' : World) : Prop := PointPost bp s w i d e w'

set_option maxRecDepth 100000 in
set_option maxHeartbeats 2000000 in
theorem point_13 (bp : Nat) (s : ByteArray) (i d : Nat) (w : World) (h : At w bp s i d) (hi : i ≤ s.size) (hs : s.size ≤ 4000) (c1 : UInt8) (n1 : Nat) (hc1 : (L s)[i]? = some c1) (hd1 : hexDigit c1 = some n1) (h13 : n1 = 13) :
    Calls Tryz.prog 62 #[.pointer (some ⟨bp, 0, none⟩)] w (PointPost bp s w i d) := by
  have H := Lib.hid h
  have he : ((n1 : Int) == 13) = true := by simp; omega
  have H1 := Lib.hid ((HexAt.start (L s) i).step hc1 hd1 (by omega) (by omega))
  have HC1 := Lib.hid hc1
  have HD1 := Lib.hid hd1
  have H13 := Lib.hid h13
  have hb1 := hex_le hd1
  clear h h13 hc1 hd1
  go_enter Tryz.func62, Tryz.ntmps62
  go_wp2_with fail
  refine (hex_any bp s i d 0 15 _ (by exact H.out) hi hs (by omega) (by omega)).mono ?_
  rintro e w1 (⟨c1', n1', hc1', hd1', l1, h1, hi1, rfl, A1, K1⟩ | ⟨hno, rfl, K1⟩)
  rotate_left
  · exact absurd ⟨Int.natCast_nonneg _, by omega⟩ (hno c1 n1 HC1.out HD1.out)
  obtain rfl : n1' = n1 := by
    rw [HC1.out] at hc1'; cases hc1'; rw [HD1.out] at hd1'; cases hd1'; rfl
  clear hc1' hd1' HD1 HC1
  go_wp2_with fail
  refine (hex_any bp s (i + 1) d 0 11 _ (by exact A1) (by omega) hs (by omega) (by omega)).mono ?_
  rintro e w2 (⟨c2, n2, hc2, hd2, l2, h2, hi2, rfl, A2, K2⟩ | ⟨hno, rfl, K2⟩)
  rotate_left
  · have HN := Lib.hid hno
    clear hno
    go_wp2_with fail
    refine ⟨rfl, .inr ⟨i + 1, by omega, ⟨rfl, K1.trans K2⟩, H1.out.fault fun c n hc hn => ?_⟩⟩
    have := HN.out c n hc hn
    have := hex_le hn
    have := H13.out
    omega
  have hb2 := hex_le hd2
  obtain ⟨m2, hm2, hv2⟩ := named n1' n2 (by omega) hb2
  have H2 := Lib.hid (H1.out.step hc2 hd2 (by omega) (by have := H13.out; omega))
  have HV2 := Lib.hid hv2
  have hm2b : m2 ≤ 255 := by omega
  clear hc2 hd2 hv2
  go_wp2_with fail
  refine (hex_any bp s (i + 1 + 1) d 0 15 _ (by exact A2) (by omega) hs (by omega) (by omega)).mono ?_
  rintro e w3 (⟨c3, n3, hc3, hd3, l3, h3, hi3, rfl, A3, K3⟩ | ⟨hno, rfl, K3⟩)
  rotate_left
  · have HN := Lib.hid hno
    clear hno
    go_wp2_with fail
    refine ⟨rfl, .inr ⟨i + 1 + 1, by omega, ⟨rfl, (K1.trans K2).trans K3⟩, H2.out.fault fun c n hc hn => ?_⟩⟩
    have := HN.out c n hc hn
    have := hex_le hn
    omega
  have hb3 := hex_le hd3
  obtain ⟨m3, hm3, hv3⟩ := named m2 n3 (by omega) hb3
  have H3 := Lib.hid (H2.out.step hc3 hd3 (by omega) (by omega))
  have HV3 := Lib.hid hv3
  have hm3b : m3 ≤ 4095 := by omega
  clear hc3 hd3 hv3
  go_wp2_with fail
  refine (hex_any bp s (i + 1 + 1 + 1) d 0 15 _ (by exact A3) (by omega) hs (by omega) (by omega)).mono ?_
  rintro e w4 (⟨c4, n4, hc4, hd4, l4, h4, hi4, rfl, A4, K4⟩ | ⟨hno, rfl, K4⟩)
  rotate_left
  · have HN := Lib.hid hno
    clear hno
    go_wp2_with fail
    refine ⟨rfl, .inr ⟨i + 1 + 1 + 1, by omega, ⟨rfl, ((K1.trans K2).trans K3).trans K4⟩, H3.out.fault fun c n hc hn => ?_⟩⟩
    have := HN.out c n hc hn
    have := hex_le hn
    omega
  have hb4 := hex_le hd4
  obtain ⟨m4, hm4, hv4⟩ := named m3 n4 (by omega) hb4
  have HV4 := Lib.hid hv4
  have HC4 := Lib.hid hc4
  have HD4 := Lib.hid hd4
  have hm4b : m4 ≤ 65535 := by omega
  have K14 := ((K1.trans K2).trans K3).trans K4
  have HE : Hid (m4 = 16 * (16 * (16 * (16 * 0 + n1') + n2) + n3) + n4) := by
    have := HV2.out; have := HV3.out; have := HV4.out
    show m4 = _
    omega
  clear hc4 hd4 hv4 K1 K2 K3 K4
  by_cases hs : 0xd800 ≤ m4 ∧ m4 ≤ 0xdbff
  · have g1 : ¬ (m4 : Int) < 55296 := by omega
    have g2 : ¬ (56319 : Int) < (m4 : Int) := by omega
    have HU := Lib.hid (H3.out.upper HC4.out HD4.out (by have := HE.out; omega))
    clear hs
    go_wp2_with fail
    refine (word_any bp s ⟨#[92, 117]⟩ (i + 1 + 1 + 1 + 1) d _ (by exact A4) (by omega) (by assumption) (by decide)).mono ?_
    rintro e w5 (⟨hm, rfl, A5, K5⟩ | ⟨j, hj, hmj, hnj, rfl, K5⟩)
    rotate_left
    · have hj2 : j < 2 := hj
      have HMJ := Lib.hid hmj
      have HNJ := Lib.hid hnj
      clear hmj hnj hj
      go_wp2_with fail
      refine ⟨rfl, .inr ⟨i + 1 + 1 + 1 + 1 + j, ?_, ⟨rfl, K14.trans K5⟩, ?_⟩⟩
      · match j, hj2 with
        | 0, _ => omega
        | 1, _ =>
          have h0 : (L s)[i + 1 + 1 + 1 + 1]? = some 92 := HMJ.out 0 (by omega)
          have := (List.getElem?_eq_some_iff.1 h0).1; rw [L_len] at this; omega
      · match j, hj2 with
        | 0, _ => exact low_fault1 HU.out (by have := HNJ.out; simpa using this)
        | 1, _ => exact low_fault2 HU.out (HMJ.out 0 (by omega)) (by have := HNJ.out; simpa using this)
    have hl0 : (L s)[i + 1 + 1 + 1 + 1]? = some 92 := hm 0 (by decide)
    have hl1 : (L s)[i + 1 + 1 + 1 + 1 + 1]? = some 117 := hm 1 (by decide)
    have hsz : i + 1 + 1 + 1 + 1 + 2 ≤ s.size := by have := (List.getElem?_eq_some_iff.1 hl1).1; rw [L_len] at this; omega
    have HL0 := Lib.hid (LowAt.start HU.out hl0 hl1)
    have K15 := K14.trans K5
    clear hm hl0 hl1 K14 K5
    obtain ⟨q, hq⟩ : ∃ q, q = i + 1 + 1 + 1 + 1 + 2 := ⟨_, rfl⟩
    have A5' : At w5 bp s q d := by rw [hq]; exact A5
    have HL0' := HL0
    rw [← hq] at HL0'
    have hqs : q ≤ s.size := by omega
    have hiq : i < q := by omega
    clear A5 HL0 hq hsz
    go_wp2_with fail
    refine (hex_any bp s q d 13 13 _ (by exact A5') hqs (by assumption) (by omega) (by omega)).mono ?_
    rintro e w6 (⟨c6, n6, hc6, hd6, l6, h6, hi6, rfl, A6, K6⟩ | ⟨hno, rfl, K6⟩)
    rotate_left
    · have HN := Lib.hid hno
      clear hno
      go_wp2_with fail
      refine ⟨rfl, .inr ⟨q, by omega, ⟨rfl, K15.trans K6⟩, HL0'.out.fault fun c n hc hn => ?_⟩⟩
      have := HN.out c n hc hn
      omega
    have HL1 := Lib.hid (HL0'.out.step hc6 hd6 (by omega) (by omega))
    have K16 := K15.trans K6
    clear hc6 hd6 K15 K6
    go_wp2_with fail
    refine (hex_any bp s (q + 1) d 12 15 _ (by exact A6) (by omega) (by assumption) (by omega) (by omega)).mono ?_
    rintro e w7 (⟨c7, n7, hc7, hd7, l7, h7, hi7, rfl, A7, K7⟩ | ⟨hno, rfl, K7⟩)
    rotate_left
    · have HN := Lib.hid hno
      clear hno
      go_wp2_with fail
      refine ⟨rfl, .inr ⟨q + 1, by omega, ⟨rfl, K16.trans K7⟩, HL1.out.fault fun c n hc hn => ?_⟩⟩
      have := HN.out c n hc hn
      have := hex_le hn
      omega
    have hb7 := hex_le hd7
    obtain ⟨m7, hm7, hv7⟩ := named n6 n7 (by omega) hb7
    have HL2 := Lib.hid (HL1.out.step hc7 hd7 (by omega) (by omega))
    have HV7 := Lib.hid hv7
    have hm7b : 220 ≤ m7 ∧ m7 ≤ 223 := by omega
    obtain ⟨hm7a, hm7b⟩ := hm7b
    have K17 := K16.trans K7
    clear hc7 hd7 K16 K7 hv7
    go_wp2_with fail
    refine (hex_any bp s (q + 1 + 1) d 0 15 _ (by exact A7) (by omega) (by assumption) (by omega) (by omega)).mono ?_
    rintro e w8 (⟨c8, n8, hc8, hd8, l8, h8, hi8, rfl, A8, K8⟩ | ⟨hno, rfl, K8⟩)
    rotate_left
    · have HN := Lib.hid hno
      clear hno
      go_wp2_with fail
      refine ⟨rfl, .inr ⟨q + 1 + 1, by omega, ⟨rfl, K17.trans K8⟩, HL2.out.fault fun c n hc hn => ?_⟩⟩
      have := HN.out c n hc hn
      have := hex_le hn
      omega
    have hb8 := hex_le hd8
    obtain ⟨m8, hm8, hv8⟩ := named m7 n8 (by omega) hb8
    have HL3 := Lib.hid (HL2.out.step hc8 hd8 (by omega) (by omega))
    have HV8 := Lib.hid hv8
    have hm8a : 3520 ≤ m8 := by omega
    have hm8b : m8 ≤ 3583 := by omega
    have K18 := K17.trans K8
    clear hc8 hd8 K17 K8 hv8
    go_wp2_with fail
    refine (hex_any bp s (q + 1 + 1 + 1) d 0 15 _ (by exact A8) (by omega) (by assumption) (by omega) (by omega)).mono ?_
    rintro e w9 (⟨c9, n9, hc9, hd9, l9, h9, hi9, rfl, A9, K9⟩ | ⟨hno, rfl, K9⟩)
    rotate_left
    · have HN := Lib.hid hno
      clear hno
      go_wp2_with fail
      refine ⟨rfl, .inr ⟨q + 1 + 1 + 1, by omega, ⟨rfl, K18.trans K9⟩, HL3.out.fault fun c n hc hn => ?_⟩⟩
      have := HN.out c n hc hn
      have := hex_le hn
      omega
    have hb9 := hex_le hd9
    obtain ⟨m9, hm9, hv9⟩ := named m8 n9 (by omega) hb9
    have HLL := Lib.hid (HL3.out.last hc9 hd9)
    have HV9 := Lib.hid hv9
    have hm9a : 56320 ≤ m9 := by omega
    have hm9b : m9 ≤ 57343 := by omega
    have K19 := K18.trans K9
    clear hc9 hd9 K18 K9 hv9
    go_wp2_with fail
    go_ret
    refine .inl ⟨_, q + 1 + 1 + 1 + 1, _, by omega, by omega, ?_, ?_, ?_, ⟨rfl, A9, K19⟩, HLL.out⟩
    · have := HE.out; have := HV7.out; have := HV8.out; have := HV9.out
      omega
    · have := HE.out; have := HV7.out; have := HV8.out; have := HV9.out
      omega
    · have := HE.out; have := HV7.out; have := HV8.out; have := HV9.out
      omega
  · have HF := Lib.hid (H3.out.last HC4.out HD4.out (by have := HE.out; omega))
    by_cases g1 : (m4 : Int) < 55296
    · clear hs
      go_wp2_with fail
      go_ret
      exact .inl ⟨_, i + 1 + 1 + 1 + 1, _, by omega, by omega, by have := HE.out; omega, by have := HE.out; have := H13.out; omega, by have := HE.out; omega, ⟨rfl, A4, K14⟩, HF.out⟩
    · have g2 : (56319 : Int) < (m4 : Int) := by omega
      clear hs
      go_wp2_with fail
      go_ret
      exact .inl ⟨_, i + 1 + 1 + 1 + 1, _, by omega, by omega, by have := HE.out; omega, by have := HE.out; have := H13.out; omega, by have := HE.out; omega, ⟨rfl, A4, K14⟩, HF.out⟩

set_option maxRecDepth 100000 in
set_option maxHeartbeats 2000000 in
theorem point_other (bp : Nat) (s : ByteArray) (i d : Nat) (w : World) (h : At w bp s i d) (hi : i ≤ s.size) (hs : s.size ≤ 4000) (c1 : UInt8) (n1 : Nat) (hc1 : (L s)[i]? = some c1) (hd1 : hexDigit c1 = some n1) (h13 : n1 ≠ 13) :
    Calls Tryz.prog 62 #[.pointer (some ⟨bp, 0, none⟩)] w (PointPost bp s w i d) := by
  have H := Lib.hid h
  have he : ((n1 : Int) == 13) = false := by simp; omega
  have H1 := Lib.hid ((HexAt.start (L s) i).step hc1 hd1 (by omega) (by omega))
  have HC1 := Lib.hid hc1
  have HD1 := Lib.hid hd1
  have H13 := Lib.hid h13
  have hb1 := hex_le hd1
  clear h h13 hc1 hd1
  go_enter Tryz.func62, Tryz.ntmps62
  go_wp2_with fail
  refine (hex_any bp s i d 0 15 _ (by exact H.out) hi hs (by omega) (by omega)).mono ?_
  rintro e w1 (⟨c1', n1', hc1', hd1', l1, h1, hi1, rfl, A1, K1⟩ | ⟨hno, rfl, K1⟩)
  rotate_left
  · exact absurd ⟨Int.natCast_nonneg _, by omega⟩ (hno c1 n1 HC1.out HD1.out)
  obtain rfl : n1' = n1 := by
    rw [HC1.out] at hc1'; cases hc1'; rw [HD1.out] at hd1'; cases hd1'; rfl
  clear hc1' hd1' HD1 HC1
  go_wp2_with fail
  refine (hex_any bp s (i + 1) d 0 15 _ (by exact A1) (by omega) hs (by omega) (by omega)).mono ?_
  rintro e w2 (⟨c2, n2, hc2, hd2, l2, h2, hi2, rfl, A2, K2⟩ | ⟨hno, rfl, K2⟩)
  rotate_left
  · have HN := Lib.hid hno
    clear hno
    go_wp2_with fail
    refine ⟨rfl, .inr ⟨i + 1, by omega, ⟨rfl, K1.trans K2⟩, H1.out.fault fun c n hc hn => ?_⟩⟩
    have := HN.out c n hc hn
    have := hex_le hn
    have := H13.out
    omega
  have hb2 := hex_le hd2
  obtain ⟨m2, hm2, hv2⟩ := named n1' n2 (by omega) hb2
  have H2 := Lib.hid (H1.out.step hc2 hd2 (by omega) (by have := H13.out; omega))
  have HV2 := Lib.hid hv2
  have hm2b : m2 ≤ 255 := by omega
  clear hc2 hd2 hv2
  go_wp2_with fail
  refine (hex_any bp s (i + 1 + 1) d 0 15 _ (by exact A2) (by omega) hs (by omega) (by omega)).mono ?_
  rintro e w3 (⟨c3, n3, hc3, hd3, l3, h3, hi3, rfl, A3, K3⟩ | ⟨hno, rfl, K3⟩)
  rotate_left
  · have HN := Lib.hid hno
    clear hno
    go_wp2_with fail
    refine ⟨rfl, .inr ⟨i + 1 + 1, by omega, ⟨rfl, (K1.trans K2).trans K3⟩, H2.out.fault fun c n hc hn => ?_⟩⟩
    have := HN.out c n hc hn
    have := hex_le hn
    omega
  have hb3 := hex_le hd3
  obtain ⟨m3, hm3, hv3⟩ := named m2 n3 (by omega) hb3
  have H3 := Lib.hid (H2.out.step hc3 hd3 (by omega) (by omega))
  have HV3 := Lib.hid hv3
  have hm3b : m3 ≤ 4095 := by omega
  clear hc3 hd3 hv3
  go_wp2_with fail
  refine (hex_any bp s (i + 1 + 1 + 1) d 0 15 _ (by exact A3) (by omega) hs (by omega) (by omega)).mono ?_
  rintro e w4 (⟨c4, n4, hc4, hd4, l4, h4, hi4, rfl, A4, K4⟩ | ⟨hno, rfl, K4⟩)
  rotate_left
  · have HN := Lib.hid hno
    clear hno
    go_wp2_with fail
    refine ⟨rfl, .inr ⟨i + 1 + 1 + 1, by omega, ⟨rfl, ((K1.trans K2).trans K3).trans K4⟩, H3.out.fault fun c n hc hn => ?_⟩⟩
    have := HN.out c n hc hn
    have := hex_le hn
    omega
  have hb4 := hex_le hd4
  obtain ⟨m4, hm4, hv4⟩ := named m3 n4 (by omega) hb4
  have HV4 := Lib.hid hv4
  have HC4 := Lib.hid hc4
  have HD4 := Lib.hid hd4
  have hm4b : m4 ≤ 65535 := by omega
  have K14 := ((K1.trans K2).trans K3).trans K4
  have HE : Hid (m4 = 16 * (16 * (16 * (16 * 0 + n1') + n2) + n3) + n4) := by
    have := HV2.out; have := HV3.out; have := HV4.out
    show m4 = _
    omega
  clear hc4 hd4 hv4 K1 K2 K3 K4
  by_cases hs : 0xd800 ≤ m4 ∧ m4 ≤ 0xdbff
  · have g1 : ¬ (m4 : Int) < 55296 := by omega
    have g2 : ¬ (56319 : Int) < (m4 : Int) := by omega
    have HU := Lib.hid (H3.out.upper HC4.out HD4.out (by have := HE.out; omega))
    clear hs
    go_wp2_with fail
    refine (word_any bp s ⟨#[92, 117]⟩ (i + 1 + 1 + 1 + 1) d _ (by exact A4) (by omega) (by assumption) (by decide)).mono ?_
    rintro e w5 (⟨hm, rfl, A5, K5⟩ | ⟨j, hj, hmj, hnj, rfl, K5⟩)
    rotate_left
    · have hj2 : j < 2 := hj
      have HMJ := Lib.hid hmj
      have HNJ := Lib.hid hnj
      clear hmj hnj hj
      go_wp2_with fail
      refine ⟨rfl, .inr ⟨i + 1 + 1 + 1 + 1 + j, ?_, ⟨rfl, K14.trans K5⟩, ?_⟩⟩
      · match j, hj2 with
        | 0, _ => omega
        | 1, _ =>
          have h0 : (L s)[i + 1 + 1 + 1 + 1]? = some 92 := HMJ.out 0 (by omega)
          have := (List.getElem?_eq_some_iff.1 h0).1; rw [L_len] at this; omega
      · match j, hj2 with
        | 0, _ => exact low_fault1 HU.out (by have := HNJ.out; simpa using this)
        | 1, _ => exact low_fault2 HU.out (HMJ.out 0 (by omega)) (by have := HNJ.out; simpa using this)
    have hl0 : (L s)[i + 1 + 1 + 1 + 1]? = some 92 := hm 0 (by decide)
    have hl1 : (L s)[i + 1 + 1 + 1 + 1 + 1]? = some 117 := hm 1 (by decide)
    have hsz : i + 1 + 1 + 1 + 1 + 2 ≤ s.size := by have := (List.getElem?_eq_some_iff.1 hl1).1; rw [L_len] at this; omega
    have HL0 := Lib.hid (LowAt.start HU.out hl0 hl1)
    have K15 := K14.trans K5
    clear hm hl0 hl1 K14 K5
    obtain ⟨q, hq⟩ : ∃ q, q = i + 1 + 1 + 1 + 1 + 2 := ⟨_, rfl⟩
    have A5' : At w5 bp s q d := by rw [hq]; exact A5
    have HL0' := HL0
    rw [← hq] at HL0'
    have hqs : q ≤ s.size := by omega
    have hiq : i < q := by omega
    clear A5 HL0 hq hsz
    go_wp2_with fail
    refine (hex_any bp s q d 13 13 _ (by exact A5') hqs (by assumption) (by omega) (by omega)).mono ?_
    rintro e w6 (⟨c6, n6, hc6, hd6, l6, h6, hi6, rfl, A6, K6⟩ | ⟨hno, rfl, K6⟩)
    rotate_left
    · have HN := Lib.hid hno
      clear hno
      go_wp2_with fail
      refine ⟨rfl, .inr ⟨q, by omega, ⟨rfl, K15.trans K6⟩, HL0'.out.fault fun c n hc hn => ?_⟩⟩
      have := HN.out c n hc hn
      omega
    have HL1 := Lib.hid (HL0'.out.step hc6 hd6 (by omega) (by omega))
    have K16 := K15.trans K6
    clear hc6 hd6 K15 K6
    go_wp2_with fail
    refine (hex_any bp s (q + 1) d 12 15 _ (by exact A6) (by omega) (by assumption) (by omega) (by omega)).mono ?_
    rintro e w7 (⟨c7, n7, hc7, hd7, l7, h7, hi7, rfl, A7, K7⟩ | ⟨hno, rfl, K7⟩)
    rotate_left
    · have HN := Lib.hid hno
      clear hno
      go_wp2_with fail
      refine ⟨rfl, .inr ⟨q + 1, by omega, ⟨rfl, K16.trans K7⟩, HL1.out.fault fun c n hc hn => ?_⟩⟩
      have := HN.out c n hc hn
      have := hex_le hn
      omega
    have hb7 := hex_le hd7
    obtain ⟨m7, hm7, hv7⟩ := named n6 n7 (by omega) hb7
    have HL2 := Lib.hid (HL1.out.step hc7 hd7 (by omega) (by omega))
    have HV7 := Lib.hid hv7
    have hm7b : 220 ≤ m7 ∧ m7 ≤ 223 := by omega
    obtain ⟨hm7a, hm7b⟩ := hm7b
    have K17 := K16.trans K7
    clear hc7 hd7 K16 K7 hv7
    go_wp2_with fail
    refine (hex_any bp s (q + 1 + 1) d 0 15 _ (by exact A7) (by omega) (by assumption) (by omega) (by omega)).mono ?_
    rintro e w8 (⟨c8, n8, hc8, hd8, l8, h8, hi8, rfl, A8, K8⟩ | ⟨hno, rfl, K8⟩)
    rotate_left
    · have HN := Lib.hid hno
      clear hno
      go_wp2_with fail
      refine ⟨rfl, .inr ⟨q + 1 + 1, by omega, ⟨rfl, K17.trans K8⟩, HL2.out.fault fun c n hc hn => ?_⟩⟩
      have := HN.out c n hc hn
      have := hex_le hn
      omega
    have hb8 := hex_le hd8
    obtain ⟨m8, hm8, hv8⟩ := named m7 n8 (by omega) hb8
    have HL3 := Lib.hid (HL2.out.step hc8 hd8 (by omega) (by omega))
    have HV8 := Lib.hid hv8
    have hm8a : 3520 ≤ m8 := by omega
    have hm8b : m8 ≤ 3583 := by omega
    have K18 := K17.trans K8
    clear hc8 hd8 K17 K8 hv8
    go_wp2_with fail
    refine (hex_any bp s (q + 1 + 1 + 1) d 0 15 _ (by exact A8) (by omega) (by assumption) (by omega) (by omega)).mono ?_
    rintro e w9 (⟨c9, n9, hc9, hd9, l9, h9, hi9, rfl, A9, K9⟩ | ⟨hno, rfl, K9⟩)
    rotate_left
    · have HN := Lib.hid hno
      clear hno
      go_wp2_with fail
      refine ⟨rfl, .inr ⟨q + 1 + 1 + 1, by omega, ⟨rfl, K18.trans K9⟩, HL3.out.fault fun c n hc hn => ?_⟩⟩
      have := HN.out c n hc hn
      have := hex_le hn
      omega
    have hb9 := hex_le hd9
    obtain ⟨m9, hm9, hv9⟩ := named m8 n9 (by omega) hb9
    have HLL := Lib.hid (HL3.out.last hc9 hd9)
    have HV9 := Lib.hid hv9
    have hm9a : 56320 ≤ m9 := by omega
    have hm9b : m9 ≤ 57343 := by omega
    have K19 := K18.trans K9
    clear hc9 hd9 K18 K9 hv9
    go_wp2_with fail
    go_ret
    refine .inl ⟨_, q + 1 + 1 + 1 + 1, _, by omega, by omega, ?_, ?_, ?_, ⟨rfl, A9, K19⟩, HLL.out⟩
    · have := HE.out; have := HV7.out; have := HV8.out; have := HV9.out
      omega
    · have := HE.out; have := HV7.out; have := HV8.out; have := HV9.out
      omega
    · have := HE.out; have := HV7.out; have := HV8.out; have := HV9.out
      omega
  · have HF := Lib.hid (H3.out.last HC4.out HD4.out (by have := HE.out; omega))
    by_cases g1 : (m4 : Int) < 55296
    · clear hs
      go_wp2_with fail
      go_ret
      exact .inl ⟨_, i + 1 + 1 + 1 + 1, _, by omega, by omega, by have := HE.out; omega, by have := HE.out; have := H13.out; omega, by have := HE.out; omega, ⟨rfl, A4, K14⟩, HF.out⟩
    · have g2 : (56319 : Int) < (m4 : Int) := by omega
      clear hs
      go_wp2_with fail
      go_ret
      exact .inl ⟨_, i + 1 + 1 + 1 + 1, _, by omega, by omega, by have := HE.out; omega, by have := HE.out; have := H13.out; omega, by have := HE.out; omega, ⟨rfl, A4, K14⟩, HF.out⟩

set_option maxRecDepth 100000 in
set_option maxHeartbeats 1000000 in
theorem point_none (bp : Nat) (s : ByteArray) (i d : Nat) (w : World) (h : At w bp s i d) (hi : i ≤ s.size) (hs : s.size ≤ 4000) (hn : ∀ c n, (L s)[i]? = some c → hexDigit c ≠ some n) :
    Calls Tryz.prog 62 #[.pointer (some ⟨bp, 0, none⟩)] w (PointPost bp s w i d) := by
  have H := Lib.hid h
  have HN := Lib.hid hn
  clear h hn
  go_enter Tryz.func62, Tryz.ntmps62
  go_wp2_with fail
  refine (hex_any bp s i d 0 15 _ (by exact H.out) hi hs (by omega) (by omega)).mono ?_
  rintro e w1 (⟨c1', n1', hc1', hd1', l1, h1, hi1, rfl, A1, K1⟩ | ⟨hno, rfl, K1⟩)
  · exact absurd hd1' (HN.out _ _ hc1')
  clear hno
  go_wp2_with fail
  exact ⟨rfl, .inr ⟨i, hi, ⟨rfl, K1⟩, (HexAt.start (L s) i).fault fun c n hc hn => absurd hn (HN.out _ _ hc)⟩⟩

theorem point_any (bp : Nat) (s : ByteArray) (i d : Nat) (w : World) (h : At w bp s i d) (hi : i ≤ s.size) (hs : s.size ≤ 4000) :
    Calls Tryz.prog 62 #[.pointer (some ⟨bp, 0, none⟩)] w (PointPost bp s w i d) := by
  cases hc : (L s)[i]? with
  | none => exact point_none bp s i d w h hi hs fun c n h' => by rw [hc] at h'; cases h'
  | some c =>
    cases hd : hexDigit c with
    | none => exact point_none bp s i d w h hi hs fun c' n h' => by rw [hc] at h'; cases h'; rw [hd]; simp
    | some n =>
      by_cases h13 : n = 13
      · exact point_13 bp s i d w h hi hs c n hc hd h13
      · exact point_other bp s i d w h hi hs c n hc hd h13

#print axioms point_any

end Jot
end Go.Proofs.YthgcnmdnjfajbaaGreatDoor
