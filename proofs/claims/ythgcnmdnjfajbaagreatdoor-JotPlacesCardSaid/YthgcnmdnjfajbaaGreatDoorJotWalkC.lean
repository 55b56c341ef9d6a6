/- Walks of package jot: want and word at every byte, behind. Conditions: a parser that stands in its text. -/
import Derived.Test.YthgcnmdnjfajbaaGreatDoorJotWalkA
namespace Go.Proofs.YthgcnmdnjfajbaaGreatDoor
open Go.RowKit
namespace Jot

/-- A text's bytes. -/
abbrev L (s : ByteArray) : Bs := s.data.toList

theorem L_get {s : ByteArray} {i : Nat} (h : i < s.size) : (L s)[i]? = some s[i] := by
  have h' : i < s.data.toList.length := by simpa using h
  rw [List.getElem?_eq_getElem h']; rfl
theorem L_len (s : ByteArray) : (L s).length = s.size := Array.length_toList
theorem L_end {s : ByteArray} {i : Nat} (h : s.size ≤ i) : (L s)[i]? = none := by
  rw [List.getElem?_eq_none_iff, L_len]; exact h

def WantPost (bp : Nat) (s : ByteArray) (w : World) (i d : Nat) (c : Int) (e : Ending) (w' : World) : Prop :=
  (∃ b, (L s)[i]? = some b ∧ (b.toNat : Int) = c ∧ Went bp s w (.tuple #[]) (i + 1) d e w') ∨
  ((∀ b, (L s)[i]? = some b → (b.toNat : Int) ≠ c) ∧ Gave bp w 40 i e w')

theorem want_any (bp : Nat) (s : ByteArray) (i d : Nat) (c : Int) (w : World) (h : At w bp s i d) (hi : i ≤ s.size) (hs : s.size ≤ 4000) :
    Calls Tryz.prog 39 #[.pointer (some ⟨bp, 0, none⟩), .int .u8 c] w (WantPost bp s w i d c) := by
  by_cases hl : i < s.size
  · by_cases hc : (s[i].toNat : Int) = c
    · exact (want_ok bp s i d c w h hl hs hc).mono fun e w' hw => .inl ⟨_, L_get hl, hc, hw⟩
    · exact (want_bad bp s i d c w h hl hc).mono fun e w' hw => .inr ⟨fun b hb => (by rw [L_get hl] at hb; cases hb; exact hc), hw⟩
  · obtain rfl : i = s.size := by omega
    exact (want_end bp s d c w h).mono fun e w' hw => .inr ⟨fun b hb => (by rw [L_end (Nat.le_refl _)] at hb; cases hb), hw⟩

def WordPost (bp : Nat) (s : ByteArray) (w : World) (i d : Nat) (ws : ByteArray) (e : Ending) (w' : World) : Prop :=
  ((∀ j, j < ws.size → (L s)[i + j]? = (L ws)[j]?) ∧ Went bp s w (.tuple #[]) (i + ws.size) d e w') ∨
  (∃ j, j < ws.size ∧ (∀ k, k < j → (L s)[i + k]? = (L ws)[k]?) ∧ (L s)[i + j]? ≠ (L ws)[j]? ∧ Gave bp w 40 (i + j) e w')

theorem eq_of_toNat {a b : UInt8} (h : (a.toNat : Int) = b.toNat) : a = b := UInt8.toNat_inj.1 (by omega)

set_option maxHeartbeats 400000 in
theorem word_any (bp : Nat) (s ws : ByteArray) (i d : Nat) (w : World) (h : At w bp s i d) (hi : i ≤ s.size) (hs : s.size ≤ 4000) (hw : ws.size ≤ 10) :
    Calls Tryz.prog 22 #[.pointer (some ⟨bp, 0, none⟩), .string ws] w (WordPost bp s w i d ws) := by
  go_enter Tryz.func22, Tryz.ntmps22
  go_wp2
  go_loopw [7] (fun k wr => ∃ j : Nat, j ≤ ws.size ∧ k = .int .i64 j ∧ i + j ≤ s.size ∧ (∀ k, k < j → (L s)[i + k]? = (L ws)[k]?) ∧ At wr bp s (i + j) d ∧ Kept bp w wr)
    (fun k _ => ws.size - (intOf k).toNat)
  case atStart => exact ⟨0, Nat.zero_le _, rfl, hi, fun k hk => by omega, h, Kept.refl _ _⟩
  case round =>
    obtain ⟨j, hj, rfl, hij, hm, hA, hK⟩ := hrel
    have HM := Lib.hid hm
    have HA := Lib.hid hA
    clear hm hA h
    by_cases hlt : j < ws.size
    · have hcon := want_any bp s (i + j) d (ws[j].toNat) wr HA.out hij hs
      have HC := Lib.hid hcon
      clear hcon
      go_wp2_with (go_at_call 39; refine HC.out.mono ?_; rintro e w' (⟨b, hb, hc, rfl, hA', hK'⟩ | ⟨hn, rfl, hK'⟩))
      · go_roundw
        case rel =>
          refine ⟨j + 1, by omega, by go_num, ?_, ?_, hA', hK.trans hK'⟩
          · have := (List.getElem?_eq_some_iff.1 hb).1; rw [L_len] at this; omega
          · intro k hk
            by_cases hkj : k < j
            · exact HM.out k hkj
            · obtain rfl : k = j := by omega
              rw [hb, L_get hlt, eq_of_toNat hc]
        case measure => simp [intOf]; omega
      · refine ⟨rfl, .inr ⟨j, hlt, HM.out, ?_, rfl, hK.trans hK'⟩⟩
        rw [L_get hlt]
        intro hb
        exact hn _ hb rfl
    · go_wp2
      go_end0
      obtain rfl : j = ws.size := by omega
      exact .inl ⟨HM.out, rfl, HA.out, hK⟩

def BehindPost (c : UInt8) (w : World) (e : Ending) (w' : World) : Prop :=
  ((∃ lo hi more : Nat, lead c = some (lo, hi, more) ∧ e = .returned (.tuple #[.int .u8 lo, .int .u8 hi, .int .i64 (more + 1 : Int)])) ∨
  (lead c = none ∧ ∃ lo hi : Int, e = .returned (.tuple #[.int .u8 lo, .int .u8 hi, .int .i64 0]))) ∧ w = w'

theorem lead_nat (c : UInt8) : lead c =
    if c.toNat < 194 then none else if c.toNat < 224 then some (0x80, 0xbf, 0) else if c.toNat = 224 then some (0xa0, 0xbf, 1)
    else if c.toNat = 237 then some (0x80, 0x9f, 1) else if c.toNat < 240 then some (0x80, 0xbf, 1) else if c.toNat = 240 then some (0x90, 0xbf, 2)
    else if c.toNat < 244 then some (0x80, 0xbf, 2) else if c.toNat = 244 then some (0x80, 0x8f, 2) else none := by
  unfold lead
  simp only [UInt8.lt_iff_toNat_lt, ← UInt8.toNat_inj, UInt8.reduceToNat]

set_option maxRecDepth 100000 in
set_option maxHeartbeats 1000000 in
theorem behind_any (c : UInt8) (w : World) : Calls Tryz.prog 63 #[.int .u8 c.toNat] w (BehindPost c w) := by
  have hc256 : (c.toNat : Int) < 256 := by have := c.toNat_lt; omega
  go_enter Tryz.func63, Tryz.ntmps63
  go_wp2
  all_goals
    simp only [beq_iff_eq, beq_eq_false_iff_ne] at *
    go_ret3
    first
      | (refine ⟨.inl ⟨128, 191, 0, ?_, rfl⟩, rfl⟩; rw [lead_nat]; repeat (first | rfl | rw [if_pos (by omega)] | rw [if_neg (by omega)]))
      | (refine ⟨.inl ⟨160, 191, 1, ?_, rfl⟩, rfl⟩; rw [lead_nat]; repeat (first | rfl | rw [if_pos (by omega)] | rw [if_neg (by omega)]))
      | (refine ⟨.inl ⟨128, 159, 1, ?_, rfl⟩, rfl⟩; rw [lead_nat]; repeat (first | rfl | rw [if_pos (by omega)] | rw [if_neg (by omega)]))
      | (refine ⟨.inl ⟨128, 191, 1, ?_, rfl⟩, rfl⟩; rw [lead_nat]; repeat (first | rfl | rw [if_pos (by omega)] | rw [if_neg (by omega)]))
      | (refine ⟨.inl ⟨144, 191, 2, ?_, rfl⟩, rfl⟩; rw [lead_nat]; repeat (first | rfl | rw [if_pos (by omega)] | rw [if_neg (by omega)]))
      | (refine ⟨.inl ⟨128, 143, 2, ?_, rfl⟩, rfl⟩; rw [lead_nat]; repeat (first | rfl | rw [if_pos (by omega)] | rw [if_neg (by omega)]))
      | (refine ⟨.inl ⟨128, 191, 2, ?_, rfl⟩, rfl⟩; rw [lead_nat]; repeat (first | rfl | rw [if_pos (by omega)] | rw [if_neg (by omega)]))
      | (refine ⟨.inr ⟨?_, _, _, rfl⟩, rfl⟩; rw [lead_nat]; repeat (first | rfl | rw [if_pos (by omega)] | rw [if_neg (by omega)]))

end Jot
end Go.Proofs.YthgcnmdnjfajbaaGreatDoor
