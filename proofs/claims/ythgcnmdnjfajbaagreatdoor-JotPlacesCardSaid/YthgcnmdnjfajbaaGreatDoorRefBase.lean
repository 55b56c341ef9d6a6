/- Words for the walks over the reference's reader: where it stands in memory. Conditions: none. -/
/- Walks over the reference's reader: takes, blanks, word, opens. Conditions: a reader that stands in its text. -/
/- Walks over the reference's reader: word, opens. Conditions: a reader that stands in its text. -/
/- Walks over the reference's reader: follows, nibble, letter. Conditions: none. -/
import Derived.Test.YthgcnmdnjfajbaaGreatDoorJotPlainW
import Derived.Test.YthgcnmdnjfajbaaGreatDoorJotWalkJ
import Derived.Test.YthgcnmdnjfajbaaGreatDoorJotWalkL
import Derived.Test.YthgcnmdnjfajbaaGreatDoorJotWalkF
import Derived.Deep.RegionHeld3
import Derived.Deep.AppendLies
import Derived.Deep.DrawnRows
namespace Go.Proofs.YthgcnmdnjfajbaaGreatDoor
open Go.RowKit
namespace Jot

/-- The reader in block bp: its text, its place, what is wrong, how deep it stands. -/
def RAt (w : World) (bp : Nat) (s : ByteArray) (at_ e deep : Nat) : Prop :=
  w.heap[bp]? = some (.cells #[.string s, .int .i64 at_, .int .i64 e, .int .i64 deep] 69 (0, 0))

theorem RAt.lt {w : World} {bp : Nat} {s : ByteArray} {i e d : Nat} (h : RAt w bp s i e d) : bp < w.heap.size := (Array.getElem?_eq_some_iff.1 h).1
theorem RAt.c0 {w : World} {bp : Nat} {s : ByteArray} {i e d : Nat} (h : RAt w bp s i e d) : w.cell? ⟨bp, 0, none⟩ = some (.string s) := by
  unfold RAt at h; simp [World.cell?, h]
theorem RAt.c1 {w : World} {bp : Nat} {s : ByteArray} {i e d : Nat} (h : RAt w bp s i e d) : w.cell? ⟨bp, 1, none⟩ = some (.int .i64 i) := by
  unfold RAt at h; simp [World.cell?, h]
theorem RAt.c2 {w : World} {bp : Nat} {s : ByteArray} {i e d : Nat} (h : RAt w bp s i e d) : w.cell? ⟨bp, 2, none⟩ = some (.int .i64 e) := by
  unfold RAt at h; simp [World.cell?, h]
theorem RAt.c3 {w : World} {bp : Nat} {s : ByteArray} {i e d : Nat} (h : RAt w bp s i e d) : w.cell? ⟨bp, 3, none⟩ = some (.int .i64 d) := by
  unfold RAt at h; simp [World.cell?, h]
theorem RAt.f1 {w : World} {bp : Nat} {s : ByteArray} {i e d : Nat} (h : RAt w bp s i e d) : w.frozen? ⟨bp, 1, none⟩ = false := by
  unfold RAt at h; simp [World.frozen?, h]
theorem RAt.f2 {w : World} {bp : Nat} {s : ByteArray} {i e d : Nat} (h : RAt w bp s i e d) : w.frozen? ⟨bp, 2, none⟩ = false := by
  unfold RAt at h; simp [World.frozen?, h]
theorem RAt.f3 {w : World} {bp : Nat} {s : ByteArray} {i e d : Nat} (h : RAt w bp s i e d) : w.frozen? ⟨bp, 3, none⟩ = false := by
  unfold RAt at h; simp [World.frozen?, h]
theorem RAt.drewN {w : World} {bp : Nat} {s : ByteArray} {i e d : Nat} (h : RAt w bp s i e d) (n : Nat) : RAt (w.drewN n) bp s i e d := h
theorem RAt.kept {w w' : World} {bp b : Nat} {s : ByteArray} {i e d : Nat} (h : RAt w bp s i e d) (k : Kept b w w') (hn : bp ≠ b) : RAt w' bp s i e d :=
  (k.block bp h.lt hn).trans h
theorem RAt.set1 {w : World} {bp : Nat} {s : ByteArray} {i e d : Nat} (h : RAt w bp s i e d) (j : Nat) : RAt (w.setCell ⟨bp, 1, none⟩ (.int .i64 j)) bp s j e d := by
  unfold RAt at h ⊢; simp only [World.setCell, Array.getElem?_modify, if_true, h]; simp
theorem RAt.set2 {w : World} {bp : Nat} {s : ByteArray} {i e d : Nat} (h : RAt w bp s i e d) (j : Nat) : RAt (w.setCell ⟨bp, 2, none⟩ (.int .i64 j)) bp s i j d := by
  unfold RAt at h ⊢; simp only [World.setCell, Array.getElem?_modify, if_true, h]; simp
theorem RAt.set3 {w : World} {bp : Nat} {s : ByteArray} {i e d : Nat} (h : RAt w bp s i e d) (j : Nat) : RAt (w.setCell ⟨bp, 3, none⟩ (.int .i64 j)) bp s i e j := by
  unfold RAt at h ⊢; simp only [World.setCell, Array.getElem?_modify, if_true, h]; simp
theorem RAt.alloc {w : World} {bp : Nat} {s : ByteArray} {i e d : Nat} (h : RAt w bp s i e d) (o : Obj) : RAt (w.alloc o) bp s i e d := by
  have := h.lt
  unfold RAt at h ⊢; rw [Below.heap_alloc _ _ _ this]; exact h
theorem RAt.grown {w w' : World} {bp : Nat} {s : ByteArray} {i e d : Nat} {row : Option Nat} (h : RAt w bp s i e d) (hg : w.grownBy w' row) (hr : ∀ k, row = some k → k ≠ bp) : RAt w' bp s i e d := by
  unfold RAt at h ⊢
  rw [hg.block bp (Array.getElem?_eq_some_iff.1 h).1 (fun e => hr bp e.symm rfl)]
  exact h

/-- How long a text may be here. -/
def big : Nat := 1000000

/-- A call that went well: it stands at j, in d. -/
def RWent (bp : Nat) (s : ByteArray) (w : World) (v : Value) (j d : Nat) (e : Ending) (w' : World) : Prop :=
  e = .returned v ∧ RAt w' bp s j 0 d ∧ Kept bp w w'
/-- A call that found k wrong at p. -/
def RGave (bp : Nat) (s : ByteArray) (w : World) (v : Value) (k p : Nat) (e : Ending) (w' : World) : Prop :=
  e = .returned v ∧ (∃ d, RAt w' bp s p k d) ∧ Kept bp w w'

set_option maxHeartbeats 400000 in
theorem r_wrong (bp : Nat) (s : ByteArray) (i e0 d k : Nat) (w : World) (h : RAt w bp s i e0 d) :
    Calls Tryz.prog 55 #[.pointer (some ⟨bp, 0, none⟩), .int .i64 k] w (RGave bp s w (.bool false) k i) := by
  have c2 := h.c2
  have f2 := h.f2
  have H := Lib.hid h
  clear h
  go_enter Tryz.func55, Tryz.ntmps55
  go_wp2
  go_ret
  exact ⟨rfl, ⟨d, H.out.set2 k⟩, (Kept.refl _ _).set 2 _⟩

set_option maxRecDepth 100000 in
set_option maxHeartbeats 400000 in
theorem r_is_in (bp : Nat) (s : ByteArray) (i e0 d : Nat) (c : Nat) (b : Bool) (w : World) (h : RAt w bp s i e0 d) (hi : i < s.size) (hb : ((s[i].toNat : Int) == (c : Int)) = b) :
    Calls Tryz.prog 69 #[.pointer (some ⟨bp, 0, none⟩), .int .u8 c] w fun e w' => e = .returned (.bool b) ∧ ∃ n, w' = w.drewN n := by
  have c1 := h.c1
  have c0 := h.c0
  have hi' : (i : Int) < s.size := by omega
  clear h
  cases b with
  | true =>
    go_enter Tryz.func69, Tryz.ntmps69
    go_wp2
    go_quiet (fail)
    go_wp2
    go_ret
    exact ⟨rfl, _, rfl⟩
  | false =>
    go_enter Tryz.func69, Tryz.ntmps69
    go_wp2
    go_quiet (fail)
    go_wp2
    go_ret
    exact ⟨rfl, _, rfl⟩

set_option maxRecDepth 100000 in
set_option maxHeartbeats 400000 in
theorem r_is_end (bp : Nat) (s : ByteArray) (i e0 d : Nat) (c : Nat) (w : World) (h : RAt w bp s i e0 d) (hi : s.size ≤ i) :
    Calls Tryz.prog 69 #[.pointer (some ⟨bp, 0, none⟩), .int .u8 c] w fun e w' => e = .returned (.bool false) ∧ ∃ n, w' = w.drewN n := by
  have c1 := h.c1
  have c0 := h.c0
  have hi' : decide ((i : Int) < s.size) = false := by simp; omega
  have hlt : ¬ i < s.size := by omega
  clear h hi
  go_enter Tryz.func69, Tryz.ntmps69
  go_wp2
  go_quiet (fail)
  go_wp2
  go_ret
  exact ⟨rfl, _, rfl⟩

/-- Does this byte stand at i? -/
def isAt (s : ByteArray) (i : Nat) (c : UInt8) : Bool := decide ((L s)[i]? = some c)

theorem r_is (bp : Nat) (s : ByteArray) (i e0 d : Nat) (c : UInt8) (w : World) (h : RAt w bp s i e0 d) :
    Calls Tryz.prog 69 #[.pointer (some ⟨bp, 0, none⟩), .int .u8 (c.toNat : Int)] w fun e w' => e = .returned (.bool (isAt s i c)) ∧ ∃ n, w' = w.drewN n := by
  by_cases hi : i < s.size
  · refine r_is_in bp s i e0 d c.toNat _ w h hi ?_
    unfold isAt
    rw [L_get hi]
    by_cases hc : s[i] = c
    · subst hc; simp
    · have : ¬ ((s[i].toNat : Int) = (c.toNat : Int)) := fun e => hc (UInt8.toNat_inj.1 (by omega))
      simp [hc, this]
  · have := r_is_end bp s i e0 d c.toNat w h (by omega)
    unfold isAt
    rw [L_end (by omega)]
    exact this

end Jot
end Go.Proofs.YthgcnmdnjfajbaaGreatDoor

namespace Go.Proofs.YthgcnmdnjfajbaaGreatDoor
open Go.RowKit
namespace Jot

set_option maxRecDepth 100000 in
set_option maxHeartbeats 400000 in
theorem r_takes_yes (bp : Nat) (s : ByteArray) (i d : Nat) (c : UInt8) (w : World) (h : RAt w bp s i 0 d) (hs : s.size ≤ big) (hc : (L s)[i]? = some c) :
    Calls Tryz.prog 68 #[.pointer (some ⟨bp, 0, none⟩), .int .u8 (c.toNat : Int)] w (RWent bp s w (.bool true) (i + 1) d) := by
  have hi : i < s.size := by have := (List.getElem?_eq_some_iff.1 hc).1; rwa [L_len] at this
  unfold big at hs
  have HI := r_is bp s i 0 d c w h
  rw [show isAt s i c = true by simp [isAt, hc]] at HI
  have HI' := Lib.hid HI
  have c1 := h.c1
  have f1 := h.f1
  have H := Lib.hid h
  clear h hc HI
  go_enter Tryz.func68, Tryz.ntmps68
  go_wp2_with fail
  refine (HI'.out).mono ?_
  rintro e w1 ⟨rfl, n, rfl⟩
  go_wp2_with fail
  go_ret
  exact ⟨rfl, (H.out.drewN n).set1 (i + 1), ((Kept.refl _ _).drewN n).set 1 _⟩

set_option maxRecDepth 100000 in
set_option maxHeartbeats 400000 in
theorem r_takes_no (bp : Nat) (s : ByteArray) (i d : Nat) (c : UInt8) (w : World) (h : RAt w bp s i 0 d) (hc : (L s)[i]? ≠ some c) :
    Calls Tryz.prog 68 #[.pointer (some ⟨bp, 0, none⟩), .int .u8 (c.toNat : Int)] w (RGave bp s w (.bool false) 40 i) := by
  have HI := r_is bp s i 0 d c w h
  rw [show isAt s i c = false from decide_eq_false hc] at HI
  have HI' := Lib.hid HI
  have H := Lib.hid h
  clear h hc HI
  go_enter Tryz.func68, Tryz.ntmps68
  go_wp2_with fail
  refine (HI'.out).mono ?_
  rintro e w1 ⟨rfl, n, rfl⟩
  go_wp2_with fail
  refine (r_wrong bp s i 0 d 40 _ (by exact H.out.drewN n)).mono ?_
  rintro e w2 ⟨rfl, ⟨d', A2⟩, K2⟩
  have HA := Lib.hid A2
  clear A2
  go_wp2_with fail
  go_ret
  exact ⟨rfl, ⟨d', HA.out⟩, ((Kept.refl _ _).drewN n).trans K2⟩

/-- takes: a byte that must stand there. -/
def Takes (bp : Nat) (s : ByteArray) (i d : Nat) (c : UInt8) (w : World) (e : Ending) (w' : World) : Prop :=
  ((L s)[i]? = some c ∧ RWent bp s w (.bool true) (i + 1) d e w') ∨ ((L s)[i]? ≠ some c ∧ RGave bp s w (.bool false) 40 i e w')

theorem r_takes (bp : Nat) (s : ByteArray) (i d : Nat) (c : UInt8) (w : World) (h : RAt w bp s i 0 d) (hs : s.size ≤ big) :
    Calls Tryz.prog 68 #[.pointer (some ⟨bp, 0, none⟩), .int .u8 (c.toNat : Int)] w (Takes bp s i d c w) := by
  by_cases hc : (L s)[i]? = some c
  · exact (r_takes_yes bp s i d c w h hs hc).mono fun e w' h => .inl ⟨hc, h⟩
  · exact (r_takes_no bp s i d c w h hc).mono fun e w' h => .inr ⟨hc, h⟩

set_option maxRecDepth 100000 in
set_option maxHeartbeats 1000000 in
theorem r_blanks (bp : Nat) (s : ByteArray) (i e0 d : Nat) (w : World) (h : RAt w bp s i e0 d) (hi : i ≤ s.size) (hs : s.size ≤ big) :
    Calls Tryz.prog 28 #[.pointer (some ⟨bp, 0, none⟩)] w fun e w' => ∃ j, Blanks s i j ∧ e = .returned (.tuple #[]) ∧ RAt w' bp s j e0 d ∧ Kept bp w w' := by
  unfold big at hs
  go_enter Tryz.func28, Tryz.ntmps28
  go_wp2
  go_loopg [] (s.size - i) (fun k wr => ∃ j : Nat, k = s.size - j ∧ i ≤ j ∧ j ≤ s.size ∧ (∀ k c, i ≤ k → k < j → (L s)[k]? = some c → isBlank c = true) ∧ RAt wr bp s j e0 d ∧ Kept bp w wr)
  case atStart => exact ⟨i, rfl, Nat.le_refl _, hi, fun k c h1 h2 => by omega, h, Kept.refl _ _⟩
  case round =>
    obtain ⟨j, hk, hij, hjs, hb, hA, hK⟩ := hrel
    have HB := Lib.hid hb
    have HA := Lib.hid hA
    have HK := Lib.hid hk
    have c0 := hA.c0
    have c1 := hA.c1
    have f1 := hA.f1
    clear hb hA hk h
    by_cases hlt : j < s.size
    · have hlt' : (j : Int) < s.size := by omega
      by_cases hbl : isBlank s[j] = true
      · have HBL := Lib.hid hbl
        have hcs : s[j] = 32 ∨ s[j] = 9 ∨ s[j] = 10 ∨ s[j] = 13 := by
          simp only [isBlank, Bool.or_eq_true, beq_iff_eq] at hbl
          rcases hbl with ((h | h) | h) | h <;> simp [h]
        clear hbl
        rcases hcs with hc | hc | hc | hc
        · have t1 : ((s[j].toNat : Int) == 32) = true := by rw [hc]; rfl
          clear hc
          go_wp2_with fail
          go_quiet (fail)
          go_wp2
          go_roundg (s.size - (j + 1))
          case measure => rw [HK.out]; omega
          case rel =>
            refine ⟨j + 1, rfl, by omega, by omega, fun k c h1 h2 h3 => ?_, (HA.out.drewN nq).set1 (j + 1), (hK.drewN nq).setCell rfl _⟩
            by_cases hkj : k < j
            · exact HB.out k c h1 hkj h3
            · obtain rfl : k = j := by omega
              rw [L_get hlt] at h3; cases h3; exact HBL.out
        · have t1 : ((s[j].toNat : Int) == 32) = false := by rw [hc]; rfl
          have t2 : ((s[j].toNat : Int) == 9) = true := by rw [hc]; rfl
          clear hc
          go_wp2_with fail
          go_quiet (fail)
          go_wp2
          go_roundg (s.size - (j + 1))
          case measure => rw [HK.out]; omega
          case rel =>
            refine ⟨j + 1, rfl, by omega, by omega, fun k c h1 h2 h3 => ?_, (HA.out.drewN nq).set1 (j + 1), (hK.drewN nq).setCell rfl _⟩
            by_cases hkj : k < j
            · exact HB.out k c h1 hkj h3
            · obtain rfl : k = j := by omega
              rw [L_get hlt] at h3; cases h3; exact HBL.out
        · have t1 : ((s[j].toNat : Int) == 32) = false := by rw [hc]; rfl
          have t2 : ((s[j].toNat : Int) == 9) = false := by rw [hc]; rfl
          have t3 : ((s[j].toNat : Int) == 10) = true := by rw [hc]; rfl
          clear hc
          go_wp2_with fail
          go_quiet (fail)
          go_wp2
          go_roundg (s.size - (j + 1))
          case measure => rw [HK.out]; omega
          case rel =>
            refine ⟨j + 1, rfl, by omega, by omega, fun k c h1 h2 h3 => ?_, (HA.out.drewN nq).set1 (j + 1), (hK.drewN nq).setCell rfl _⟩
            by_cases hkj : k < j
            · exact HB.out k c h1 hkj h3
            · obtain rfl : k = j := by omega
              rw [L_get hlt] at h3; cases h3; exact HBL.out
        · have t1 : ((s[j].toNat : Int) == 32) = false := by rw [hc]; rfl
          have t2 : ((s[j].toNat : Int) == 9) = false := by rw [hc]; rfl
          have t3 : ((s[j].toNat : Int) == 10) = false := by rw [hc]; rfl
          have t4 : ((s[j].toNat : Int) == 13) = true := by rw [hc]; rfl
          clear hc
          go_wp2_with fail
          go_quiet (fail)
          go_wp2
          go_roundg (s.size - (j + 1))
          case measure => rw [HK.out]; omega
          case rel =>
            refine ⟨j + 1, rfl, by omega, by omega, fun k c h1 h2 h3 => ?_, (HA.out.drewN nq).set1 (j + 1), (hK.drewN nq).setCell rfl _⟩
            by_cases hkj : k < j
            · exact HB.out k c h1 hkj h3
            · obtain rfl : k = j := by omega
              rw [L_get hlt] at h3; cases h3; exact HBL.out
      · have hbf : isBlank s[j] = false := by simpa using hbl
        have HBL := Lib.hid hbf
        simp only [isBlank, Bool.or_eq_false_iff, beq_eq_false_iff_ne] at hbf
        obtain ⟨⟨⟨h1, h2⟩, h3⟩, h4⟩ := hbf
        have tt : ∀ c : UInt8, s[j] ≠ c → ((s[j].toNat : Int) == (c.toNat : Int)) = false := fun c hc => by
          have : ¬ ((s[j].toNat : Int) = (c.toNat : Int)) := fun e => hc (UInt8.toNat_inj.1 (by omega))
          simpa using this
        have t1 : ((s[j].toNat : Int) == 32) = false := tt 32 h1
        have t2 : ((s[j].toNat : Int) == 9) = false := tt 9 h2
        have t3 : ((s[j].toNat : Int) == 10) = false := tt 10 h3
        have t4 : ((s[j].toNat : Int) == 13) = false := tt 13 h4
        clear tt h1 h2 h3 h4 hbl
        go_wp2_with fail
        go_quiet (fail)
        go_wp2
        go_end0
        exact ⟨j, ⟨hij, hjs, HB.out, fun c h => (by rw [L_get hlt] at h; cases h; exact HBL.out)⟩, rfl, HA.out, hK.drewN nq⟩
    · have hd : decide ((j : Int) < s.size) = false := by simp; omega
      go_wp2_with fail
      go_quiet (fail)
      go_wp2
      go_end0
      exact ⟨j, ⟨hij, hjs, HB.out, fun c h => (by rw [L_end (by omega)] at h; cases h)⟩, rfl, HA.out, hK.drewN nq⟩

end Jot
end Go.Proofs.YthgcnmdnjfajbaaGreatDoor

namespace Go.Proofs.YthgcnmdnjfajbaaGreatDoor
open Go.RowKit
namespace Jot

def RWord (bp : Nat) (s : ByteArray) (w : World) (i d : Nat) (ws : ByteArray) (e : Ending) (w' : World) : Prop :=
  ((∀ j, j < ws.size → (L s)[i + j]? = (L ws)[j]?) ∧ RWent bp s w (.bool true) (i + ws.size) d e w') ∨
  (∃ j, j < ws.size ∧ (∀ k, k < j → (L s)[i + k]? = (L ws)[k]?) ∧ (L s)[i + j]? ≠ (L ws)[j]? ∧ RGave bp s w (.bool false) 40 (i + j) e w')

set_option maxRecDepth 100000 in
set_option maxHeartbeats 1000000 in
theorem r_word (bp : Nat) (s ws : ByteArray) (i d : Nat) (w : World) (h : RAt w bp s i 0 d) (hi : i ≤ s.size) (hs : s.size ≤ big) (hw : ws.size ≤ 10) :
    Calls Tryz.prog 50 #[.pointer (some ⟨bp, 0, none⟩), .string ws] w (RWord bp s w i d ws) := by
  have HS := Lib.hid hs
  unfold big at hs
  go_enter Tryz.func50, Tryz.ntmps50
  go_wp2
  go_loopw [5] (fun k wr => ∃ j : Nat, j ≤ ws.size ∧ k = .int .i64 j ∧ i + j ≤ s.size ∧ (∀ k, k < j → (L s)[i + k]? = (L ws)[k]?) ∧ RAt wr bp s (i + j) 0 d ∧ Kept bp w wr)
    (fun k _ => ws.size - (intOf k).toNat)
  case atStart => exact ⟨0, Nat.zero_le _, rfl, hi, fun k hk => by omega, h, Kept.refl _ _⟩
  case round =>
    obtain ⟨j, hj, rfl, hij, hm, hA, hK⟩ := hrel
    have HM := Lib.hid hm
    have HA := Lib.hid hA
    clear hm hA h
    by_cases hlt : j < ws.size
    · have HC := Lib.hid (r_takes bp s (i + j) d (ws[j]) wr HA.out HS.out)
      go_wp2_with fail
      refine (HC.out).mono ?_
      rintro e w' (⟨hb, rfl, hA', hK'⟩ | ⟨hn, rfl, hA', hK'⟩)
      · have HB := Lib.hid hb
        have HA' := Lib.hid hA'
        clear hb hA'
        go_wp2_with fail
        go_roundw
        case rel =>
          refine ⟨j + 1, by omega, by go_num, ?_, ?_, HA'.out, hK.trans hK'⟩
          · have := (List.getElem?_eq_some_iff.1 HB.out).1; rw [L_len] at this; omega
          · intro k hk
            by_cases hkj : k < j
            · exact HM.out k hkj
            · obtain rfl : k = j := by omega
              rw [HB.out, L_get hlt]
        case measure => simp [intOf]; omega
      · have HN := Lib.hid hn
        have HA' := Lib.hid hA'
        clear hn hA'
        go_wp2_with fail
        go_ret
        refine .inr ⟨j, hlt, HM.out, ?_, rfl, HA'.out, hK.trans hK'⟩
        rw [L_get hlt]
        exact HN.out
    · go_wp2
      go_ret
      obtain rfl : j = ws.size := by omega
      exact .inl ⟨HM.out, rfl, HA.out, hK⟩

set_option maxRecDepth 100000 in
set_option maxHeartbeats 400000 in
theorem r_opens_deep (bp : Nat) (s : ByteArray) (i : Nat) (w : World) (h : RAt w bp s i 0 16) :
    Calls Tryz.prog 72 #[.pointer (some ⟨bp, 0, none⟩)] w (RGave bp s w (.bool false) 41 i) := by
  have c3 := h.c3
  have H := Lib.hid h
  clear h
  go_enter Tryz.func72, Tryz.ntmps72
  go_wp2_with fail
  refine (r_wrong bp s i 0 16 41 _ (by exact H.out)).mono ?_
  rintro e w2 ⟨rfl, ⟨d', A2⟩, K2⟩
  have HA := Lib.hid A2
  clear A2
  go_wp2_with fail
  go_ret
  exact ⟨rfl, ⟨d', HA.out⟩, K2⟩

set_option maxRecDepth 100000 in
set_option maxHeartbeats 400000 in
theorem r_opens_ok (bp : Nat) (s : ByteArray) (i d : Nat) (w : World) (h : RAt w bp s i 0 d) (hd : d < 16) (hi : i < s.size) (hs : s.size ≤ big) :
    Calls Tryz.prog 72 #[.pointer (some ⟨bp, 0, none⟩)] w fun e w' => ∃ j, Blanks s (i + 1) j ∧ RWent bp s w (.bool true) j (d + 1) e w' := by
  have HS := Lib.hid hs
  unfold big at hs
  have c1 := h.c1
  have f1 := h.f1
  have c3 := h.c3
  have f3 := h.f3
  have t0 : ((d : Int) == 16) = false := by simp; omega
  have H := Lib.hid h
  clear h
  go_enter Tryz.func72, Tryz.ntmps72
  go_wp2_with fail
  have h2 := (H.out.set3 (d + 1)).set1 (i + 1)
  have H2 := Lib.hid h2
  clear h2
  refine (r_blanks bp s (i + 1) 0 (d + 1) _ (by exact H2.out) hi HS.out).mono ?_
  rintro e w2 ⟨j, hj, rfl, A2, K2⟩
  have HA := Lib.hid A2
  have HJ := Lib.hid hj
  clear A2 hj
  go_wp2_with fail
  go_ret
  exact ⟨j, HJ.out, rfl, HA.out, (((Kept.refl _ _).set 3 _).set 1 _).trans K2⟩

end Jot
end Go.Proofs.YthgcnmdnjfajbaaGreatDoor

namespace Go.Proofs.YthgcnmdnjfajbaaGreatDoor
open Go.RowKit
namespace Jot

/-- What the reference's table says of a first byte. -/
def Follows (c : UInt8) (e : Ending) : Prop :=
  (c.toNat < 128 ∧ e = .returned (.tuple #[.int .i64 0, .int .i64 0, .int .i64 0])) ∨
  (128 ≤ c.toNat ∧ lead c = none ∧ e = .returned (.tuple #[.int .i64 (-1), .int .i64 0, .int .i64 0])) ∨
  (128 ≤ c.toNat ∧ ∃ lo hi more : Nat, lead c = some (lo, hi, more) ∧ e = .returned (.tuple #[.int .i64 (more + 1 : Int), .int .i64 lo, .int .i64 hi]))

set_option maxRecDepth 100000 in
set_option maxHeartbeats 1000000 in
theorem r_follows (c : UInt8) (w : World) : Calls Tryz.prog 90 #[.int .i64 c.toNat] w fun e w' => Follows c e ∧ w = w' := by
  have hc256 : (c.toNat : Int) < 256 := by have := c.toNat_lt; omega
  go_enter Tryz.func90, Tryz.ntmps90
  go_wp2
  all_goals
    try simp only [beq_iff_eq, beq_eq_false_iff_ne] at *
    go_ret3
    first
      | exact ⟨.inl ⟨by omega, rfl⟩, rfl⟩
      | (refine ⟨.inr (.inl ⟨by omega, ?_, rfl⟩), rfl⟩; rw [lead_nat]; repeat (first | rfl | rw [if_pos (by omega)] | rw [if_neg (by omega)]))
      | (refine ⟨.inr (.inr ⟨by omega, 128, 191, 0, ?_, rfl⟩), rfl⟩; rw [lead_nat]; repeat (first | rfl | rw [if_pos (by omega)] | rw [if_neg (by omega)]))
      | (refine ⟨.inr (.inr ⟨by omega, 160, 191, 1, ?_, rfl⟩), rfl⟩; rw [lead_nat]; repeat (first | rfl | rw [if_pos (by omega)] | rw [if_neg (by omega)]))
      | (refine ⟨.inr (.inr ⟨by omega, 128, 159, 1, ?_, rfl⟩), rfl⟩; rw [lead_nat]; repeat (first | rfl | rw [if_pos (by omega)] | rw [if_neg (by omega)]))
      | (refine ⟨.inr (.inr ⟨by omega, 128, 191, 1, ?_, rfl⟩), rfl⟩; rw [lead_nat]; repeat (first | rfl | rw [if_pos (by omega)] | rw [if_neg (by omega)]))
      | (refine ⟨.inr (.inr ⟨by omega, 144, 191, 2, ?_, rfl⟩), rfl⟩; rw [lead_nat]; repeat (first | rfl | rw [if_pos (by omega)] | rw [if_neg (by omega)]))
      | (refine ⟨.inr (.inr ⟨by omega, 128, 191, 2, ?_, rfl⟩), rfl⟩; rw [lead_nat]; repeat (first | rfl | rw [if_pos (by omega)] | rw [if_neg (by omega)]))
      | (refine ⟨.inr (.inr ⟨by omega, 128, 143, 2, ?_, rfl⟩), rfl⟩; rw [lead_nat]; repeat (first | rfl | rw [if_pos (by omega)] | rw [if_neg (by omega)]))

theorem hexDigit_nat (c : UInt8) : hexDigit c =
    if 48 ≤ c.toNat ∧ c.toNat ≤ 57 then some (c.toNat - 48) else if 97 ≤ c.toNat ∧ c.toNat ≤ 102 then some (c.toNat - 87) else if 65 ≤ c.toNat ∧ c.toNat ≤ 70 then some (c.toNat - 55) else none := by
  unfold hexDigit
  simp only [UInt8.le_iff_toNat_le, UInt8.reduceToNat]

/-- What a nibble is. -/
def nib (c : UInt8) : Int := match hexDigit c with | some d => (d : Int) | none => -1

theorem nib_eq {c : UInt8} (V : Int) (h : nib c = V) : Ending.returned (.int .i64 V) = Ending.returned (.int .i64 (nib c)) := by rw [h]

set_option maxRecDepth 100000 in
set_option maxHeartbeats 1000000 in
theorem r_nibble (c : UInt8) (w : World) : Calls Tryz.prog 107 #[.int .u8 c.toNat] w fun e w' => e = .returned (.int .i64 (nib c)) ∧ w = w' := by
  have hc256 : (c.toNat : Int) < 256 := by have := c.toNat_lt; omega
  go_enter Tryz.func107, Tryz.ntmps107
  go_wp2
  all_goals
    try simp only [beq_iff_eq, beq_eq_false_iff_ne] at *
    try go_ret
    refine ⟨nib_eq _ ?_, rfl⟩
    unfold nib
    rw [hexDigit_nat]
    repeat (first | rw [if_pos (by omega)] | rw [if_neg (by omega)])
    try simp only []
    try omega

end Jot
end Go.Proofs.YthgcnmdnjfajbaaGreatDoor
