/- The smallest walks of package jot: fail, here, want, hex, word, blanks, digit. Conditions: a parser that stands in its text. -/
import Derived.Test.YthgcnmdnjfajbaaGreatDoorJotBase
namespace Go.Proofs.YthgcnmdnjfajbaaGreatDoor
open Go.RowKit
namespace Jot

theorem drewN_drewN (w : World) (a b : Nat) : ∃ n, (w.drewN a).drewN b = w.drewN n := ⟨a + b, by simp [World.drewN, Nat.add_assoc]⟩

set_option maxHeartbeats 400000 in
theorem fail_any (bp : Nat) (s : ByteArray) (i d k : Nat) (w : World) (h : At w bp s i d) :
    Calls Tryz.prog 13 #[.pointer (some ⟨bp, 0, none⟩), .int .i64 k] w fun e w' => Fails e k i ∧ w = w' := by
  have c1 := h.c1
  clear h
  go_enter Tryz.func13, Tryz.ntmps13
  go_wp2
  exact ⟨rfl, rfl, rfl⟩

theorem fail_form (bp : Nat) (s : ByteArray) (i d : Nat) (w : World) (h : At w bp s i d) :
    Calls Tryz.prog 13 #[.pointer (some ⟨bp, 0, none⟩), .int .i64 40] w fun e w' => Fails e 40 i ∧ w = w' := fail_any bp s i d 40 w h

set_option maxHeartbeats 400000 in
theorem here_some (bp : Nat) (s : ByteArray) (i d : Nat) (w : World) (h : At w bp s i d) (hi : i < s.size) :
    Calls Tryz.prog 21 #[.pointer (some ⟨bp, 0, none⟩)] w fun e w' => e = .returned (.int .u8 (s[i].toNat)) ∧ ∃ n, w' = w.drewN n := by
  have c1 := h.c1
  have c0 := h.c0
  have hne : ((i : Int) == (s.size : Int)) = false := by simp; omega
  have hi' : (i : Int) < s.size := by omega
  clear h
  go_enter Tryz.func21, Tryz.ntmps21
  go_wp2
  go_quiet (fail)
  go_wp2
  go_quiet (fail)
  go_wp2
  go_ret
  exact ⟨rfl, drewN_drewN _ _ _⟩

set_option maxHeartbeats 400000 in
theorem here_end (bp : Nat) (s : ByteArray) (d : Nat) (w : World) (h : At w bp s s.size d) :
    Calls Tryz.prog 21 #[.pointer (some ⟨bp, 0, none⟩)] w fun e w' => Fails e 40 s.size ∧ ∃ n, w' = w.drewN n := by
  have c1 := h.c1
  have c0 := h.c0
  have hne : ((s.size : Int) == (s.size : Int)) = true := by simp
  have hf := fun n => fail_form bp s s.size d (w.drewN n) h
  have HF := Lib.hid hf
  clear h hf
  go_enter Tryz.func21, Tryz.ntmps21
  go_wp2
  go_quiet (fail)
  go_wp2_with (go_at_call 13; refine (HF.out _).mono ?_; rintro e w' ⟨rfl, rfl⟩)
  exact ⟨rfl, rfl, _, rfl⟩

/-- What a call of the parser comes to: it went on to another place, or it gave up. -/
def Went (bp : Nat) (s : ByteArray) (w : World) (v : Value) (j d : Nat) (e : Ending) (w' : World) : Prop :=
  e = .returned v ∧ At w' bp s j d ∧ Kept bp w w'
def Gave (bp : Nat) (w : World) (k p : Nat) (e : Ending) (w' : World) : Prop := Fails e k p ∧ Kept bp w w'

set_option maxHeartbeats 400000 in
theorem want_ok (bp : Nat) (s : ByteArray) (i d : Nat) (c : Int) (w : World) (h : At w bp s i d) (hi : i < s.size) (hs : s.size ≤ 4000) (hc : (s[i].toNat : Int) = c) :
    Calls Tryz.prog 39 #[.pointer (some ⟨bp, 0, none⟩), .int .u8 c] w (Went bp s w (.tuple #[]) (i + 1) d) := by
  have c1 := h.c1
  have f1 := h.f1
  have hh := here_some bp s i d w h hi
  have HH := Lib.hid hh
  have hb : ((s[i].toNat : Int) != c) = false := by simp [hc]
  have H := Lib.hid h
  clear hh h hc
  go_enter Tryz.func39, Tryz.ntmps39
  go_wp2_with (go_at_call 21; refine HH.out.mono ?_; rintro e w' ⟨rfl, n, rfl⟩)
  go_end0
  refine ⟨rfl, ?_, ?_⟩
  · exact (H.out.set1 (i + 1)).drewN n
  · exact ((Kept.refl bp w).setCell rfl _).drewN n

set_option maxHeartbeats 400000 in
theorem want_bad (bp : Nat) (s : ByteArray) (i d : Nat) (c : Int) (w : World) (h : At w bp s i d) (hi : i < s.size) (hc : (s[i].toNat : Int) ≠ c) :
    Calls Tryz.prog 39 #[.pointer (some ⟨bp, 0, none⟩), .int .u8 c] w (Gave bp w 40 i) := by
  have hh := here_some bp s i d w h hi
  have HH := Lib.hid hh
  have hf := fun n => fail_form bp s i d (w.drewN n) h
  have HF := Lib.hid hf
  have hb : ((s[i].toNat : Int) != c) = true := by simp [hc]
  clear hh hc hf h
  go_enter Tryz.func39, Tryz.ntmps39
  go_wp2_with (first | (go_at_call 21; refine HH.out.mono ?_; rintro e w' ⟨rfl, n, rfl⟩) | (go_at_call 13; refine (HF.out _).mono ?_; rintro e w' ⟨rfl, rfl⟩))
  exact ⟨rfl, rfl, (Kept.refl bp w).drewN _⟩

set_option maxHeartbeats 400000 in
theorem want_end (bp : Nat) (s : ByteArray) (d : Nat) (c : Int) (w : World) (h : At w bp s s.size d) :
    Calls Tryz.prog 39 #[.pointer (some ⟨bp, 0, none⟩), .int .u8 c] w (Gave bp w 40 s.size) := by
  have hh := here_end bp s d w h
  have HH := Lib.hid hh
  clear hh h
  go_enter Tryz.func39, Tryz.ntmps39
  go_wp2_with (go_at_call 21; refine HH.out.mono ?_; rintro e w' ⟨rfl, n, rfl⟩)
  exact ⟨rfl, rfl, (Kept.refl bp w).drewN _⟩

end Jot
end Go.Proofs.YthgcnmdnjfajbaaGreatDoor
