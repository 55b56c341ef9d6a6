/- Walks over the reference's reader: bytes. Conditions: a letter's number. -/
/- Walks over the reference's reader: four. Conditions: a reader that stands in its text. -/
import Derived.Test.YthgcnmdnjfajbaaGreatDoorRefE
namespace Go.Proofs.YthgcnmdnjfajbaaGreatDoor
open Go.RowKit
namespace Jot

/-- bytes: the letter's bytes. -/
def RBytes (n : Nat) (w : World) (e : Ending) (w' : World) : Prop := e = .returned (str (utf8 n)) ∧ KeptB w.heap.size w.heap.size w w'

theorem conv_lit (bs : Bs) (w : World) (h : bs.length ≤ 4) : (convert 52 9 (.slice (some ⟨w.heap.size, 0, none⟩) bs.length bs.length)).run Tryz.prog (w.alloc (.cells (bc bs).toArray 5 (0, 0))) = .ok (.string ⟨bs.toArray⟩) (w.alloc (.cells (bc bs).toArray 5 (0, 0))) := by
  refine conv_own (B := 0) ?_
  unfold Own
  have := World.ownsRow_lit (base := 0) (e := 5) (size := 1) w (bc bs).toArray bs.length (Nat.zero_le _) (by unfold maxLen; omega) (by simp [bc_len])
  simpa using this

theorem byte_nat {n : Nat} (h : n < 256) : (UInt8.ofNat n).toNat = n := by simp; omega

set_option maxRecDepth 100000 in
set_option maxHeartbeats 1000000 in
theorem r_bytes1 (n : Nat) (hn2 : n < 128) (w : World) : Calls Tryz.prog 101 #[.int .i64 n] w (RBytes n w) := by
  have t0' : (n : Int) < 128 := by omega
  have e0 : ((UInt8.ofNat (n)).toNat : Int) = (n : Int) := by rw [byte_nat (by omega)]
  have hcv := conv_lit [UInt8.ofNat (n)] w (by simp)
  simp only [bc, List.map_cons, List.map_nil, e0, List.length_cons, List.length_nil, Nat.zero_add] at hcv
  generalize hS : (⟨#[UInt8.ofNat (n)]⟩ : ByteArray) = S at hcv
  have HS := Lib.hid hS
  clear hS
  clear e0
  go_enter Tryz.func101, Tryz.ntmps101
  go_wp2_with fail
  go_ret
  refine ⟨?_, (KeptB.refl _ _ _).alloc (by simp) _⟩
  unfold utf8
  rw [if_pos (by omega)]
  show Ending.returned (.string S) = _
  rw [← HS.out]
  rfl

set_option maxRecDepth 100000 in
set_option maxHeartbeats 1000000 in
theorem r_bytes2 (n : Nat) (hn : 128 ≤ n) (hn2 : n < 2048) (w : World) : Calls Tryz.prog 101 #[.int .i64 n] w (RBytes n w) := by
  have t0' : ¬ (n : Int) < 128 := by omega
  have t1' : (n : Int) < 2048 := by omega
  have e0 : ((UInt8.ofNat (0xc0 + n / 64)).toNat : Int) = 192 + (n : Int) / 64 := by rw [byte_nat (by omega)]; omega
  have e1 : ((UInt8.ofNat (0x80 + n % 64)).toNat : Int) = 128 + (n : Int) % 64 := by rw [byte_nat (by omega)]; omega
  have hcv := conv_lit [UInt8.ofNat (0xc0 + n / 64), UInt8.ofNat (0x80 + n % 64)] w (by simp)
  simp only [bc, List.map_cons, List.map_nil, e0, e1, List.length_cons, List.length_nil, Nat.zero_add, Nat.reduceAdd] at hcv
  generalize hS : (⟨#[UInt8.ofNat (0xc0 + n / 64), UInt8.ofNat (0x80 + n % 64)]⟩ : ByteArray) = S at hcv
  have HS := Lib.hid hS
  clear hS
  clear e0 e1
  go_enter Tryz.func101, Tryz.ntmps101
  go_wp2_with fail
  go_ret
  refine ⟨?_, (KeptB.refl _ _ _).alloc (by simp) _⟩
  unfold utf8
  rw [if_neg (by omega)]
  rw [if_pos (by omega)]
  show Ending.returned (.string S) = _
  rw [← HS.out]
  rfl

set_option maxRecDepth 100000 in
set_option maxHeartbeats 1000000 in
theorem r_bytes3 (n : Nat) (hn : 2048 ≤ n) (hn2 : n < 65536) (w : World) : Calls Tryz.prog 101 #[.int .i64 n] w (RBytes n w) := by
  have t0' : ¬ (n : Int) < 128 := by omega
  have t1' : ¬ (n : Int) < 2048 := by omega
  have t2' : (n : Int) < 65536 := by omega
  have e0 : ((UInt8.ofNat (0xe0 + n / 4096)).toNat : Int) = 224 + (n : Int) / 4096 := by rw [byte_nat (by omega)]; omega
  have e1 : ((UInt8.ofNat (0x80 + n / 64 % 64)).toNat : Int) = 128 + (n : Int) / 64 % 64 := by rw [byte_nat (by omega)]; omega
  have e2 : ((UInt8.ofNat (0x80 + n % 64)).toNat : Int) = 128 + (n : Int) % 64 := by rw [byte_nat (by omega)]; omega
  have hcv := conv_lit [UInt8.ofNat (0xe0 + n / 4096), UInt8.ofNat (0x80 + n / 64 % 64), UInt8.ofNat (0x80 + n % 64)] w (by simp)
  simp only [bc, List.map_cons, List.map_nil, e0, e1, e2, List.length_cons, List.length_nil, Nat.zero_add, Nat.reduceAdd] at hcv
  generalize hS : (⟨#[UInt8.ofNat (0xe0 + n / 4096), UInt8.ofNat (0x80 + n / 64 % 64), UInt8.ofNat (0x80 + n % 64)]⟩ : ByteArray) = S at hcv
  have HS := Lib.hid hS
  clear hS
  clear e0 e1 e2
  go_enter Tryz.func101, Tryz.ntmps101
  go_wp2_with fail
  go_ret
  refine ⟨?_, (KeptB.refl _ _ _).alloc (by simp) _⟩
  unfold utf8
  rw [if_neg (by omega)]
  rw [if_neg (by omega)]
  rw [if_pos (by omega)]
  show Ending.returned (.string S) = _
  rw [← HS.out]
  rfl

set_option maxRecDepth 100000 in
set_option maxHeartbeats 1000000 in
theorem r_bytes4 (n : Nat) (hn : 65536 ≤ n) (hn2 : n < 1114112) (w : World) : Calls Tryz.prog 101 #[.int .i64 n] w (RBytes n w) := by
  have t0' : ¬ (n : Int) < 128 := by omega
  have t1' : ¬ (n : Int) < 2048 := by omega
  have t2' : ¬ (n : Int) < 65536 := by omega
  have t9 : (n : Int) < 1114112 := by omega
  have e0 : ((UInt8.ofNat (0xf0 + n / 262144)).toNat : Int) = 240 + (n : Int) / 262144 := by rw [byte_nat (by omega)]; omega
  have e1 : ((UInt8.ofNat (0x80 + n / 4096 % 64)).toNat : Int) = 128 + (n : Int) / 4096 % 64 := by rw [byte_nat (by omega)]; omega
  have e2 : ((UInt8.ofNat (0x80 + n / 64 % 64)).toNat : Int) = 128 + (n : Int) / 64 % 64 := by rw [byte_nat (by omega)]; omega
  have e3 : ((UInt8.ofNat (0x80 + n % 64)).toNat : Int) = 128 + (n : Int) % 64 := by rw [byte_nat (by omega)]; omega
  have hcv := conv_lit [UInt8.ofNat (0xf0 + n / 262144), UInt8.ofNat (0x80 + n / 4096 % 64), UInt8.ofNat (0x80 + n / 64 % 64), UInt8.ofNat (0x80 + n % 64)] w (by simp)
  simp only [bc, List.map_cons, List.map_nil, e0, e1, e2, e3, List.length_cons, List.length_nil, Nat.zero_add, Nat.reduceAdd] at hcv
  generalize hS : (⟨#[UInt8.ofNat (0xf0 + n / 262144), UInt8.ofNat (0x80 + n / 4096 % 64), UInt8.ofNat (0x80 + n / 64 % 64), UInt8.ofNat (0x80 + n % 64)]⟩ : ByteArray) = S at hcv
  have HS := Lib.hid hS
  clear hS
  clear e0 e1 e2 e3
  go_enter Tryz.func101, Tryz.ntmps101
  go_wp2_with fail
  go_ret
  refine ⟨?_, (KeptB.refl _ _ _).alloc (by simp) _⟩
  unfold utf8
  rw [if_neg (by omega)]
  rw [if_neg (by omega)]
  rw [if_neg (by omega)]
  show Ending.returned (.string S) = _
  rw [← HS.out]
  rfl

theorem r_bytes (n : Nat) (hn : n < 1114112) (w : World) : Calls Tryz.prog 101 #[.int .i64 n] w (RBytes n w) := by
  by_cases h1 : n < 128
  · exact r_bytes1 n h1 w
  by_cases h2 : n < 2048
  · exact r_bytes2 n (by omega) h2 w
  by_cases h3 : n < 65536
  · exact r_bytes3 n (by omega) h3 w
  · exact r_bytes4 n (by omega) hn w

#print axioms r_bytes

end Jot
end Go.Proofs.YthgcnmdnjfajbaaGreatDoor

namespace Go.Proofs.YthgcnmdnjfajbaaGreatDoor
open Go.RowKit
namespace Jot

/-- The machine's state behind j digits. -/
def hexSt (lower : Bool) (n0 j n : Nat) (key : Bool) (acc : Bs) (K : List Fr) : St :=
  if lower then ⟨.text key (.low j n0 n) acc, K⟩ else ⟨.text key (.hex j n) acc, K⟩

/-- May this digit stand here? -/
def hexMay (lower : Bool) (j n d : Nat) : Bool :=
  if lower then !((j == 0 && d != 13) || (j == 1 && decide (d < 12))) else !(j == 1 && n == 13 && decide (12 ≤ d))

theorem hex_go {l : Bs} {i : Nat} {c : UInt8} {lower : Bool} {n0 j n d : Nat} (hc : l[i]? = some c) (hd : hexDigit c = some d) (hm : hexMay lower j n d = true) (hj : j < 3) (key : Bool) (acc : Bs) (K : List Fr) :
    R l i (hexSt lower n0 j n key acc K) = R l (i + 1) (hexSt lower n0 (j + 1) (16 * n + d) key acc K) := by
  cases lower with
  | true =>
    simp [hexMay] at hm
    rw [hexSt, if_pos rfl, hexSt, if_pos rfl, R_go hc]
    simp only [δ, dText, hd]
    rw [if_neg (by omega), if_pos hj]
  | false =>
    simp [hexMay] at hm
    rw [hexSt, if_neg (by simp), hexSt, if_neg (by simp), R_go hc]
    simp only [δ, dText, hd]
    rw [if_neg (by omega), if_pos hj]

theorem hex_bad {l : Bs} {i : Nat} {lower : Bool} {n0 j n : Nat} (h : ∀ c d, l[i]? = some c → hexDigit c = some d → hexMay lower j n d = false) (key : Bool) (acc : Bs) (K : List Fr) :
    R l i (hexSt lower n0 j n key acc K) = .bad eForm i := by
  cases hc : l[i]? with
  | none =>
    rw [R_end (List.getElem?_eq_none_iff.1 hc)]
    cases lower <;> cases K <;> simp [hexSt, eof]
  | some c =>
    rw [R_at hc]
    cases hd : hexDigit c with
    | none => cases lower <;> simp [hexSt, δ, dText, hd]
    | some d =>
      have hm := h c d hc hd
      cases lower with
      | true =>
        simp [hexMay] at hm
        simp only [hexSt, if_true, δ, dText, hd]
        rw [if_pos (by omega)]
      | false =>
        simp [hexMay] at hm
        simp only [hexSt, if_false, Bool.false_eq_true, δ, dText, hd]
        rw [if_pos (by omega)]

/-- four: what it comes to. -/
def RFour (bp : Nat) (s : ByteArray) (w : World) (i d : Nat) (lower : Bool) (n0 : Nat) (e : Ending) (w' : World) : Prop :=
  (∃ n dg : Nat, n * 16 + dg < 65536 ∧ i + 4 ≤ s.size ∧ (∃ c, (L s)[i + 3]? = some c ∧ hexDigit c = some dg ∧ hexMay lower 3 n dg = true) ∧ (lower = true → 56320 ≤ 16 * n + dg ∧ 16 * n + dg < 57344) ∧ RWent bp s w (.tuple #[.int .i64 (16 * n + dg : Nat), .bool true]) (i + 4) d e w' ∧
    ∀ key acc K, R (L s) i (hexSt lower n0 0 0 key acc K) = R (L s) (i + 3) (hexSt lower n0 3 n key acc K)) ∨
  (∃ p, p ≤ s.size ∧ RGave bp s w (.tuple #[.int .i64 0, .bool false]) 40 p e w' ∧ ∀ key acc K, R (L s) i (hexSt lower n0 0 0 key acc K) = .bad eForm p)

end Jot
end Go.Proofs.YthgcnmdnjfajbaaGreatDoor
