/- Walks over the reference's reader: letter. Conditions: a place in the text where a letter's first byte may stand. -/
import Derived.Test.YthgcnmdnjfajbaaGreatDoorRefBase
namespace Go.Proofs.YthgcnmdnjfajbaaGreatDoor
open Go.RowKit
namespace Jot

/-- How a letter goes on: the place behind it, and whether it is one. -/
def letRes (l : Bs) : Nat → Nat → Nat → Nat → Nat × Bool
  | 0, _, _, j => (j, true)
  | r + 1, lo, hi, j => match l[j]? with
    | some c => if lo ≤ c.toNat ∧ c.toNat ≤ hi then letRes l r 128 191 (j + 1) else (j, false)
    | none => (j, false)

def letFirst (l : Bs) (i : Nat) : Nat × Bool :=
  match l[i]? with
  | none => (i, false)
  | some c => if c.toNat < 128 then (i + 1, true) else match lead c with
    | none => (i, false)
    | some (lo, hi, more) => letRes l (more + 1) lo hi (i + 1)

theorem letRes_le (l : Bs) : ∀ r lo hi j, j ≤ l.length → j ≤ (letRes l r lo hi j).1 ∧ (letRes l r lo hi j).1 ≤ l.length
  | 0, _, _, j, h => ⟨Nat.le_refl _, h⟩
  | r + 1, lo, hi, j, h => by
    unfold letRes
    cases hc : l[j]? with
    | none => exact ⟨Nat.le_refl _, h⟩
    | some c =>
      have hlt := (List.getElem?_eq_some_iff.1 hc).1
      simp only []
      split
      · have := letRes_le l r 128 191 (j + 1) hlt
        omega
      · exact ⟨Nat.le_refl _, h⟩

theorem letRes_R (l : Bs) (i : Nat) : ∀ r lo hi j, i ≤ j → LetAt l i j lo hi r →
    ((letRes l r lo hi j).2 = true ∧ ∃ lo' hi', LetAt l i (letRes l r lo hi j).1 lo' hi' 0) ∨ ((letRes l r lo hi j).2 = false ∧ ∀ key acc k, R l i ⟨.text key .plain acc, k⟩ = .bad eForm (letRes l r lo hi j).1)
  | 0, lo, hi, j, _, h => .inl ⟨rfl, lo, hi, h⟩
  | r + 1, lo, hi, j, hij, h => by
    unfold letRes
    cases hc : l[j]? with
    | none => exact .inr ⟨rfl, h.fault fun c hc' => by rw [hc] at hc'; cases hc'⟩
    | some c =>
      simp only []
      by_cases hin : lo ≤ c.toNat ∧ c.toNat ≤ hi
      · rw [if_pos hin]
        exact letRes_R l i r 128 191 (j + 1) (by omega) (h.step hij hc hin.1 hin.2)
      · rw [if_neg hin]
        exact .inr ⟨rfl, h.fault fun c' hc' => by rw [hc] at hc'; cases hc'; exact hin⟩

/-- What letter says at i. -/
def LetSays (s : ByteArray) (i : Nat) : Prop :=
  ((letFirst (L s) i).2 = true ∧ i < (letFirst (L s) i).1 ∧ (letFirst (L s) i).1 ≤ s.size ∧ ∃ lo hi, LetAt (L s) i (letFirst (L s) i).1 lo hi 0) ∨
  ((letFirst (L s) i).2 = false ∧ (letFirst (L s) i).1 ≤ s.size ∧ ∀ key acc k, R (L s) i ⟨.text key .plain acc, k⟩ = .bad eForm (letFirst (L s) i).1)

theorem let_says {s : ByteArray} {i : Nat} (hi : i < s.size) (hp : Plainly s[i]) : LetSays s i := by
  unfold LetSays letFirst
  rw [L_get hi]
  simp only []
  by_cases hc : s[i].toNat < 128
  · rw [if_pos hc]
    exact .inl ⟨rfl, by omega, by omega, 0, 0, LetAt.ascii (L_get hi) hp hc 0 0⟩
  · rw [if_neg hc]
    cases hl : lead s[i] with
    | none => exact .inr ⟨rfl, Nat.le_of_lt hi, let_nolead (L_get hi) hp (by omega) hl⟩
    | some x =>
      obtain ⟨lo, hi', more⟩ := x
      simp only []
      have hle := letRes_le (L s) (more + 1) lo hi' (i + 1) (by rw [L_len]; omega)
      rw [L_len] at hle
      rcases letRes_R (L s) i (more + 1) lo hi' (i + 1) (by omega) (LetAt.first (L_get hi) hp (by omega) hl) with ⟨h1, h2⟩ | ⟨h1, h2⟩
      · exact .inl ⟨h1, by omega, hle.2, h2⟩
      · exact .inr ⟨h1, hle.2, h2⟩

/-- letter: what it says, at any world. -/
def RLet (s : ByteArray) (i : Nat) (w : World) (e : Ending) (w' : World) : Prop :=
  e = .returned (.tuple #[.int .i64 ((letFirst (L s) i).1 : Nat), .bool (letFirst (L s) i).2]) ∧ w' = w

theorem RLet.mk {s : ByteArray} {i : Nat} {w : World} {to : Nat} {ok : Bool} {x : Int} (h : letFirst (L s) i = (to, ok)) (hx : x = (to : Int)) : RLet s i w (.returned (.tuple #[.int .i64 x, .bool ok])) w := by
  unfold RLet; rw [h, hx]; exact ⟨rfl, rfl⟩

set_option maxRecDepth 100000 in
set_option maxHeartbeats 1000000 in
theorem r_letter_ascii (s : ByteArray) (i : Nat) (w : World) (hi : i < s.size) (hs : s.size ≤ big) (hc : s[i].toNat < 128) :
    Calls Tryz.prog 71 #[.string s, .int .i64 i] w (RLet s i w) := by
  unfold big at hs
  have HL := Lib.hid (show letFirst (L s) i = (i + 1, true) by unfold letFirst; rw [L_get hi]; simp only []; rw [if_pos hc])
  have HF := Lib.hid (r_follows s[i] w)
  have hlt : (i : Int) < s.size := by omega
  have h256 : (s[i].toNat : Int) < 256 := by have := s[i].toNat_lt; omega
  go_enter Tryz.func71, Tryz.ntmps71
  go_wp2_with fail
  refine (HF.out).mono ?_
  rintro e w1 ⟨⟨_, rfl⟩ | ⟨h, _, rfl⟩ | ⟨h, lo, hi', more, _, rfl⟩, rfl⟩
  · clear hc
    go_wp2_with fail
    go_loopg [9] 1 (fun k c wr => k = 1 ∧ c = .int .i64 1 ∧ wr = w)
    case atStart => exact ⟨rfl, rfl, rfl⟩
    case round =>
      obtain ⟨rfl, rfl, rfl⟩ := hrel
      go_wp2_with fail
      go_ret2
      exact RLet.mk HL.out (by omega)
  · omega
  · omega

set_option maxRecDepth 100000 in
set_option maxHeartbeats 1000000 in
theorem r_letter_none (s : ByteArray) (i : Nat) (w : World) (hi : i < s.size) (hc : 128 ≤ s[i].toNat) (hl : lead s[i] = none) :
    Calls Tryz.prog 71 #[.string s, .int .i64 i] w (RLet s i w) := by
  have HL := Lib.hid (show letFirst (L s) i = (i, false) by unfold letFirst; rw [L_get hi]; simp only []; rw [if_neg (by omega), hl])
  have HF := Lib.hid (r_follows s[i] w)
  have hlt : (i : Int) < s.size := by omega
  have h256 : (s[i].toNat : Int) < 256 := by have := s[i].toNat_lt; omega
  have HC := Lib.hid hc
  have HN := Lib.hid hl
  clear hc hl
  go_enter Tryz.func71, Tryz.ntmps71
  go_wp2_with fail
  refine (HF.out).mono ?_
  rintro e w1 ⟨⟨h, rfl⟩ | ⟨h, _, rfl⟩ | ⟨h, lo, hi', more, h', rfl⟩, rfl⟩
  · exact absurd HC.out (by omega)
  · clear h
    go_wp2_with fail
    go_ret2
    exact RLet.mk HL.out rfl
  · rw [HN.out] at h'; cases h'

set_option maxRecDepth 100000 in
set_option maxHeartbeats 1000000 in
theorem r_letter_lead (s : ByteArray) (i : Nat) (w : World) (hi : i < s.size) (hs : s.size ≤ big) (hc : 128 ≤ s[i].toNat) (lo hi' more : Nat) (hl : lead s[i] = some (lo, hi', more)) :
    Calls Tryz.prog 71 #[.string s, .int .i64 i] w (RLet s i w) := by
  unfold big at hs
  have HL := Lib.hid (show letFirst (L s) i = letRes (L s) (more + 1) lo hi' (i + 1) by unfold letFirst; rw [L_get hi]; simp only []; rw [if_neg (by omega), hl])
  have HF := Lib.hid (r_follows s[i] w)
  have hlt : (i : Int) < s.size := by omega
  have h256 : (s[i].toNat : Int) < 256 := by have := s[i].toNat_lt; omega
  have hm : more ≤ 2 ∧ lo ≤ 255 ∧ hi' ≤ 255 := by
    have hl := hl
    rw [lead_nat] at hl
    repeat' (split at hl)
    all_goals first
      | (cases hl; done)
      | (simp only [Option.some.injEq, Prod.mk.injEq] at hl; omega)
  obtain ⟨hm, hlo, hhi⟩ := hm
  have HLD := Lib.hid hl
  have HC := Lib.hid hc
  clear hl hc
  go_enter Tryz.func71, Tryz.ntmps71
  go_wp2_with fail
  refine (HF.out).mono ?_
  rintro e w1 ⟨⟨h, rfl⟩ | ⟨h, h', rfl⟩ | ⟨h, lo1, hi1, more1, h', rfl⟩, rfl⟩
  · exact absurd HC.out (by omega)
  · rw [HLD.out] at h'; cases h'
  obtain ⟨rfl, rfl, rfl⟩ : lo1 = lo ∧ hi1 = hi' ∧ more1 = more := by rw [HLD.out] at h'; simp only [Option.some.injEq, Prod.mk.injEq] at h'; omega
  clear h' h
  have hn0 : ¬ ((more1 : Int) + 1 < 0) := by omega
  go_wp2_with fail
  go_loopg [7, 8, 9] (more1 + 1 + 1) (fun k x y c wr => ∃ m lo hi r : Nat, k = r + 1 ∧ m + r = more1 + 1 ∧ lo ≤ 255 ∧ hi ≤ 255 ∧ x = .int .i64 lo ∧ y = .int .i64 hi ∧ c = .int .i64 ((m : Int) + 1) ∧ i + 1 + m ≤ s.size ∧ letFirst (L s) i = letRes (L s) r lo hi (i + 1 + m) ∧ wr = w)
  case atStart => exact ⟨0, lo1, hi1, more1 + 1, rfl, by omega, hlo, hhi, rfl, rfl, rfl, by omega, HL.out, rfl⟩
  case round =>
    obtain ⟨m, lo, hi2, r, hk, hmr, hl1, hh1, rfl, rfl, rfl, hms, hL, rfl⟩ := hrel
    have HK := Lib.hid hk
    have HLL := Lib.hid hL
    have HM := Lib.hid hmr
    have hmb : m ≤ more1 + 1 := by omega
    clear hk hL hmr HL HLD hlo hhi HF
    by_cases hr : 0 < r
    · obtain ⟨r, rfl⟩ : ∃ r', r = r' + 1 := ⟨r - 1, by omega⟩
      have hlt' : (m : Int) + 1 ≤ (more1 : Int) + 1 := by have := HM.out; omega
      by_cases hj : i + 1 + m < s.size
      · have gj : ¬ ((s.size : Int) ≤ (i : Int) + ((m : Int) + 1)) := by omega
        have gi : ((i : Int) + ((m : Int) + 1)).toNat = i + 1 + m := by omega
        by_cases hin : lo ≤ s[i + 1 + m].toNat ∧ s[i + 1 + m].toNat ≤ hi2
        · have HIN := Lib.hid hin
          have h256' : (s[i + 1 + m].toNat : Int) < 256 := by have := s[i + 1 + m].toNat_lt; omega
          go_wp2_with fail
          go_roundg (r + 1)
          case measure => rw [HK.out]; omega
          case rel =>
            refine ⟨m + 1, 128, 191, r, rfl, by have := HM.out; omega, by omega, by omega, rfl, rfl, by go_num, by omega, ?_, rfl⟩
            rw [HLL.out, letRes, L_get hj]
            simp only []
            rw [if_pos HIN.out]
            rfl
        · have hno : letFirst (L s) i = (i + 1 + m, false) := by
            rw [HLL.out, letRes, L_get hj]; simp only []; rw [if_neg hin]
          have HNO := Lib.hid hno
          have h256' : (s[i + 1 + m].toNat : Int) < 256 := by have := s[i + 1 + m].toNat_lt; omega
          clear hno
          by_cases g1 : (s[i + 1 + m].toNat : Int) < (lo : Int)
          · clear hin
            go_wp2_with fail
            go_ret2
            exact RLet.mk HNO.out (by omega)
          · have g2 : (hi2 : Int) < (s[i + 1 + m].toNat : Int) := by omega
            clear hin
            go_wp2_with fail
            go_ret2
            exact RLet.mk HNO.out (by omega)
      · have hje : (s.size : Int) ≤ (i : Int) + ((m : Int) + 1) := by omega
        have hno : letFirst (L s) i = (i + 1 + m, false) := by
          rw [HLL.out, letRes, L_end (Nat.le_of_not_lt hj)]
        have HNO := Lib.hid hno
        clear hno
        go_wp2_with fail
        go_ret2
        exact RLet.mk HNO.out (by omega)
    · obtain rfl : r = 0 := by omega
      have hge : ¬ (m : Int) + 1 ≤ (more1 : Int) + 1 := by have := HM.out; omega
      have hmm : m = more1 + 1 := by have := HM.out; omega
      go_wp2_with fail
      go_ret2
      exact RLet.mk HLL.out (by omega)

theorem r_letter (s : ByteArray) (i : Nat) (w : World) (hi : i < s.size) (hs : s.size ≤ big) :
    Calls Tryz.prog 71 #[.string s, .int .i64 i] w (RLet s i w) := by
  by_cases hc : s[i].toNat < 128
  · exact r_letter_ascii s i w hi hs hc
  · cases hl : lead s[i] with
    | none => exact r_letter_none s i w hi (by omega) hl
    | some x => obtain ⟨lo, hi', more⟩ := x; exact r_letter_lead s i w hi hs (by omega) lo hi' more hl

#print axioms r_letter

end Jot
end Go.Proofs.YthgcnmdnjfajbaaGreatDoor
