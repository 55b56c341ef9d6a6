/- Plain laws of the machine of JotSpec for texts: letters, escapes. Conditions: none. -/
import Derived.Test.YthgcnmdnjfajbaaGreatDoorJotPlain
namespace Go.Proofs.YthgcnmdnjfajbaaGreatDoor.Jot

/-- The bytes from i up to j. -/
def sl (l : Bs) (i j : Nat) : Bs := (l.drop i).take (j - i)

theorem sl_self (l : Bs) (i : Nat) : sl l i i = [] := by simp [sl]
theorem sl_succ {l : Bs} {i j : Nat} {c : UInt8} (hij : i ≤ j) (hc : l[j]? = some c) : sl l i (j + 1) = sl l i j ++ [c] := by
  unfold sl
  rw [show j + 1 - i = (j - i) + 1 from by omega, List.take_add_one]
  congr 1
  rw [List.getElem?_drop, show i + (j - i) = j from by omega, hc]
  rfl
theorem sl_len (l : Bs) (i j : Nat) (hj : j ≤ l.length) (hij : i ≤ j) : (sl l i j).length = j - i := by
  unfold sl; rw [List.length_take, List.length_drop]; omega

/-- A letter of which so many bytes are still to come, the next one between two bounds. -/
def letTM (lo hi rem : Nat) : TM := match rem with | 0 => .plain | r + 1 => .cont lo hi r

def LetAt (l : Bs) (i j lo hi rem : Nat) : Prop :=
  ∀ key acc k, R l i ⟨.text key .plain acc, k⟩ = R l j ⟨.text key (letTM lo hi rem) (acc ++ sl l i j), k⟩

/-- What stands for itself in a text. -/
def Plainly (c : UInt8) : Prop := c ≠ 34 ∧ c ≠ 92 ∧ 32 ≤ c.toNat

theorem Plainly.lt {c : UInt8} (h : Plainly c) : ¬ c < 32 := by rw [UInt8.lt_iff_toNat_lt]; simpa using h.2.2

theorem LetAt.ascii {l : Bs} {i : Nat} {c : UInt8} (hc : l[i]? = some c) (hp : Plainly c) (h : c.toNat < 128) (lo hi : Nat) : LetAt l i (i + 1) lo hi 0 := by
  intro key acc k
  have h' : c < 128 := by rw [UInt8.lt_iff_toNat_lt]; simpa using h
  rw [R_go hc (s' := ⟨.text key .plain (acc ++ [c]), k⟩)]
  · rw [sl_succ (Nat.le_refl _) hc, sl_self]; rfl
  · simp [δ, dText, hp.1, hp.2.1, hp.lt, h']

theorem LetAt.first {l : Bs} {i lo hi more : Nat} {c : UInt8} (hc : l[i]? = some c) (hp : Plainly c) (h : 128 ≤ c.toNat) (hl : lead c = some (lo, hi, more)) : LetAt l i (i + 1) lo hi (more + 1) := by
  intro key acc k
  have h' : ¬ c < 128 := by rw [UInt8.lt_iff_toNat_lt]; simpa using h
  rw [R_go hc (s' := ⟨.text key (.cont lo hi more) (acc ++ [c]), k⟩)]
  · rw [sl_succ (Nat.le_refl _) hc, sl_self]; rfl
  · simp [δ, dText, hp.1, hp.2.1, hp.lt, h', hl]

theorem let_nolead {l : Bs} {i : Nat} {c : UInt8} (hc : l[i]? = some c) (hp : Plainly c) (h : 128 ≤ c.toNat) (hl : lead c = none) (key : Bool) (acc : Bs) (k : List Fr) :
    R l i ⟨.text key .plain acc, k⟩ = .bad eForm i := by
  have h' : ¬ c < 128 := by rw [UInt8.lt_iff_toNat_lt]; simpa using h
  rw [R_bad hc (e := eForm)]
  simp [δ, dText, hp.1, hp.2.1, hp.lt, h', hl]

theorem LetAt.step {l : Bs} {i j lo hi r : Nat} {c : UInt8} (h : LetAt l i j lo hi (r + 1)) (hij : i ≤ j) (hc : l[j]? = some c) (h1 : lo ≤ c.toNat) (h2 : c.toNat ≤ hi) : LetAt l i (j + 1) 128 191 r := by
  intro key acc k
  rw [h key acc k, R_go hc (s' := ⟨.text key (letTM 128 191 r) (acc ++ sl l i (j + 1)), k⟩)]
  rw [sl_succ hij hc]
  cases r <;> simp [δ, dText, letTM, h1, h2]

theorem LetAt.fault {l : Bs} {i j lo hi r : Nat} (h : LetAt l i j lo hi (r + 1)) (hc : ∀ c, l[j]? = some c → ¬ (lo ≤ c.toNat ∧ c.toNat ≤ hi)) (key : Bool) (acc : Bs) (k : List Fr) :
    R l i ⟨.text key .plain acc, k⟩ = .bad eForm j := by
  rw [h key acc k]
  cases hj : l[j]? with
  | none => rw [R_end (List.getElem?_eq_none_iff.1 hj)]; simp [eof]
  | some c =>
    rw [R_bad hj (e := eForm)]
    have := hc c hj
    simp [δ, dText, letTM, this]

/-- Hexadecimal digits from i on: so many are read, they say n. -/
def HexAt (l : Bs) (i j q n : Nat) : Prop := ∀ key acc k, R l i ⟨.text key (.hex 0 0) acc, k⟩ = R l j ⟨.text key (.hex q n) acc, k⟩

theorem HexAt.start (l : Bs) (i : Nat) : HexAt l i i 0 0 := fun _ _ _ => rfl

theorem HexAt.step {l : Bs} {i j q n d : Nat} {c : UInt8} (h : HexAt l i j q n) (hc : l[j]? = some c) (hd : hexDigit c = some d) (hq : q < 3) (ho : ¬ (q = 1 ∧ n = 13 ∧ 12 ≤ d)) : HexAt l i (j + 1) (q + 1) (16 * n + d) := by
  intro key acc k
  rw [h key acc k, R_go hc (s' := ⟨.text key (.hex (q + 1) (16 * n + d)) acc, k⟩)]
  simp only [δ, dText, hd]
  rw [if_neg ho, if_pos hq]

theorem HexAt.fault {l : Bs} {i j q n : Nat} (h : HexAt l i j q n) (hc : ∀ c d, l[j]? = some c → hexDigit c = some d → q = 1 ∧ n = 13 ∧ 12 ≤ d) (key : Bool) (acc : Bs) (k : List Fr) :
    R l i ⟨.text key (.hex 0 0) acc, k⟩ = .bad eForm j := by
  rw [h key acc k]
  cases hj : l[j]? with
  | none => rw [R_end (List.getElem?_eq_none_iff.1 hj)]; simp [eof]
  | some c =>
    rw [R_bad hj (e := eForm)]
    simp only [δ, dText]
    cases hd : hexDigit c with
    | none => rfl
    | some d => simp only []; rw [if_pos (hc c d hj hd)]

theorem HexAt.last {l : Bs} {i j n d : Nat} {c : UInt8} (h : HexAt l i j 3 n) (hc : l[j]? = some c) (hd : hexDigit c = some d) (hs : ¬ (0xd800 ≤ 16 * n + d ∧ 16 * n + d ≤ 0xdbff)) (key : Bool) (acc : Bs) (k : List Fr) :
    R l i ⟨.text key (.hex 0 0) acc, k⟩ = R l (j + 1) ⟨.text key .plain (acc ++ utf8 (16 * n + d)), k⟩ := by
  rw [h key acc k, R_go hc]
  simp only [δ, dText, hd]
  rw [if_neg (by omega), if_neg (by omega), if_neg hs]

theorem HexAt.upper {l : Bs} {i j n d : Nat} {c : UInt8} (h : HexAt l i j 3 n) (hc : l[j]? = some c) (hd : hexDigit c = some d) (hs : 0xd800 ≤ 16 * n + d ∧ 16 * n + d ≤ 0xdbff) (key : Bool) (acc : Bs) (k : List Fr) :
    R l i ⟨.text key (.hex 0 0) acc, k⟩ = R l (j + 1) ⟨.text key (.sur1 (16 * n + d)) acc, k⟩ := by
  rw [h key acc k, R_go hc]
  simp only [δ, dText, hd]
  rw [if_neg (by omega), if_neg (by omega), if_pos hs]

/-- The lower half's digits. -/
def LowAt (l : Bs) (i u j q m : Nat) : Prop := ∀ key acc k, R l i ⟨.text key (.hex 0 0) acc, k⟩ = R l j ⟨.text key (.low q u m) acc, k⟩

theorem LowAt.start {l : Bs} {i j u : Nat} (h : ∀ key acc k, R l i ⟨.text key (.hex 0 0) acc, k⟩ = R l j ⟨.text key (.sur1 u) acc, k⟩) (h1 : l[j]? = some 92) (h2 : l[j + 1]? = some 117) : LowAt l i u (j + 2) 0 0 := by
  intro key acc k
  rw [h, R_go h1 (s' := ⟨.text key (.sur2 u) acc, k⟩), R_go h2 (s' := ⟨.text key (.low 0 u 0) acc, k⟩)]
  · simp [δ, dText]
  · simp [δ, dText]

theorem low_fault1 {l : Bs} {i j u : Nat} (h : ∀ key acc k, R l i ⟨.text key (.hex 0 0) acc, k⟩ = R l j ⟨.text key (.sur1 u) acc, k⟩) (h1 : l[j]? ≠ some 92) (key : Bool) (acc : Bs) (k : List Fr) :
    R l i ⟨.text key (.hex 0 0) acc, k⟩ = .bad eForm j := by
  rw [h]
  cases hj : l[j]? with
  | none => rw [R_end (List.getElem?_eq_none_iff.1 hj)]; simp [eof]
  | some c =>
    have : c ≠ 92 := fun e => h1 (by rw [hj, e])
    rw [R_bad hj (e := eForm)]; simp [δ, dText, this]

theorem low_fault2 {l : Bs} {i j u : Nat} (h : ∀ key acc k, R l i ⟨.text key (.hex 0 0) acc, k⟩ = R l j ⟨.text key (.sur1 u) acc, k⟩) (h1 : l[j]? = some 92) (h2 : l[j + 1]? ≠ some 117) (key : Bool) (acc : Bs) (k : List Fr) :
    R l i ⟨.text key (.hex 0 0) acc, k⟩ = .bad eForm (j + 1) := by
  rw [h, R_go h1 (s' := ⟨.text key (.sur2 u) acc, k⟩)]
  · cases hj : l[j + 1]? with
    | none => rw [R_end (List.getElem?_eq_none_iff.1 hj)]; simp [eof]
    | some c =>
      have : c ≠ 117 := fun e => h2 (by rw [hj, e])
      rw [R_bad hj (e := eForm)]; simp [δ, dText, this]
  · simp [δ, dText]

theorem LowAt.step {l : Bs} {i u j q m d : Nat} {c : UInt8} (h : LowAt l i u j q m) (hc : l[j]? = some c) (hd : hexDigit c = some d) (hq : q < 3) (ho : ¬ ((q = 0 ∧ d ≠ 13) ∨ (q = 1 ∧ d < 12))) : LowAt l i u (j + 1) (q + 1) (16 * m + d) := by
  intro key acc k
  rw [h key acc k, R_go hc (s' := ⟨.text key (.low (q + 1) u (16 * m + d)) acc, k⟩)]
  simp only [δ, dText, hd]
  rw [if_neg ho, if_pos hq]

theorem LowAt.fault {l : Bs} {i u j q m : Nat} (h : LowAt l i u j q m) (hc : ∀ c d, l[j]? = some c → hexDigit c = some d → (q = 0 ∧ d ≠ 13) ∨ (q = 1 ∧ d < 12)) (key : Bool) (acc : Bs) (k : List Fr) :
    R l i ⟨.text key (.hex 0 0) acc, k⟩ = .bad eForm j := by
  rw [h key acc k]
  cases hj : l[j]? with
  | none => rw [R_end (List.getElem?_eq_none_iff.1 hj)]; simp [eof]
  | some c =>
    rw [R_bad hj (e := eForm)]
    simp only [δ, dText]
    cases hd : hexDigit c with
    | none => rfl
    | some d => simp only []; rw [if_pos (hc c d hj hd)]

theorem LowAt.last {l : Bs} {i u j m d : Nat} {c : UInt8} (h : LowAt l i u j 3 m) (hc : l[j]? = some c) (hd : hexDigit c = some d) (key : Bool) (acc : Bs) (k : List Fr) :
    R l i ⟨.text key (.hex 0 0) acc, k⟩ = R l (j + 1) ⟨.text key .plain (acc ++ utf8 (65536 + 1024 * (u - 0xd800) + (16 * m + d - 0xdc00))), k⟩ := by
  rw [h key acc k, R_go hc]
  simp only [δ, dText, hd]
  rw [if_neg (by omega), if_neg (by omega)]

end Go.Proofs.YthgcnmdnjfajbaaGreatDoor.Jot
