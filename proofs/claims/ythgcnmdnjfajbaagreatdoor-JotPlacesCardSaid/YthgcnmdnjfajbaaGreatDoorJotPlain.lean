/- Plain laws of the machine of JotSpec for the walks: blanks, numbers, words. Conditions: none. -/
import Derived.Test.YthgcnmdnjfajbaaGreatDoorJotSpec
namespace Go.Proofs.YthgcnmdnjfajbaaGreatDoor.Jot

theorem R_blanks {l : Bs} {i j : Nat} (hij : i ≤ j) (hb : ∀ k c, i ≤ k → k < j → l[k]? = some c → isBlank c = true) (hj : j ≤ l.length) {s : St}
    (hs : ∀ c, isBlank c = true → δ s c = .go s) : R l i s = R l j s := by
  obtain ⟨n, rfl⟩ : ∃ n, j = i + n := ⟨j - i, by omega⟩
  induction n with
  | zero => rfl
  | succ n ih =>
    rw [ih (by omega) (fun k c h1 h2 h3 => hb k c h1 (by omega) h3) (by omega)]
    have hlt : i + n < l.length := by omega
    have hc := List.getElem?_eq_getElem hlt
    rw [R_go hc (hs _ (hb _ _ (by omega) (by omega) hc))]
    rfl

theorem blank_val (k : List Fr) (c : UInt8) (h : isBlank c = true) : δ ⟨.val, k⟩ c = .go ⟨.val, k⟩ := by simp [δ, dVal, h]
theorem blank_arr0 (k : List Fr) (c : UInt8) (h : isBlank c = true) : δ ⟨.arr0, k⟩ c = .go ⟨.arr0, k⟩ := by simp [δ, h]
theorem blank_obj0 (k : List Fr) (c : UInt8) (h : isBlank c = true) : δ ⟨.obj0, k⟩ c = .go ⟨.obj0, k⟩ := by simp [δ, h]
theorem blank_key (k : List Fr) (c : UInt8) (h : isBlank c = true) : δ ⟨.key, k⟩ c = .go ⟨.key, k⟩ := by simp [δ, h]
theorem blank_colon (k : List Fr) (c : UInt8) (h : isBlank c = true) : δ ⟨.colon, k⟩ c = .go ⟨.colon, k⟩ := by simp [δ, h]
theorem blank_after (v : JV) (k : List Fr) (c : UInt8) (h : isBlank c = true) : δ ⟨.after v, k⟩ c = .go ⟨.after v, k⟩ := by simp [δ, dAfter, h]

/-- A number is begun: with a sign, or without. -/
def num0 (neg : Bool) (k : List Fr) : St := if neg then ⟨.minus, k⟩ else ⟨.val, k⟩

/-- From the first digit's place i on, up to j, the digits say n. -/
def NumAt (l : Bs) (i : Nat) (neg : Bool) (j n : Nat) : Prop :=
  n ≤ maxNumber ∧ ((j = i ∧ n = 0 ∧ l[i]? ≠ some 48) ∨ (i < j ∧ ∀ k, R l i (num0 neg k) = R l j ⟨.num neg n, k⟩))

theorem dig_le {c : UInt8} (h : isDigit c = true) : dig c ≤ 9 := by
  simp [isDigit, UInt8.le_iff_toNat_le] at h; unfold dig; omega

theorem num0_digit (neg : Bool) (k : List Fr) {c : UInt8} (h : isDigit c = true) (h0 : c ≠ 48) : δ (num0 neg k) c = .go ⟨.num neg (dig c), k⟩ := by
  have hd := h
  simp only [isDigit, Bool.and_eq_true, decide_eq_true_eq, UInt8.le_iff_toNat_le, UInt8.reduceToNat] at hd
  have hn : ∀ m : UInt8, (m.toNat < 48 ∨ 57 < m.toNat) → c ≠ m := by intro m hm e; subst e; omega
  cases neg with
  | true => simp [num0, δ, h, h0]
  | false =>
    have h1 : isBlank c = false := by
      simp only [isBlank, Bool.or_eq_false_iff, beq_eq_false_iff_ne]
      exact ⟨⟨⟨hn 32 (by decide), hn 9 (by decide)⟩, hn 10 (by decide)⟩, hn 13 (by decide)⟩
    simp [num0, δ, dVal, h, h0, h1, hn 110 (by decide), hn 102 (by decide), hn 116 (by decide), hn 34 (by decide), hn 91 (by decide), hn 123 (by decide), hn 45 (by decide)]

theorem NumAt.start {l : Bs} {i : Nat} (neg : Bool) (h : l[i]? ≠ some 48) : NumAt l i neg i 0 := ⟨Nat.zero_le _, .inl ⟨rfl, rfl, h⟩⟩

theorem NumAt.step {l : Bs} {i j n : Nat} {neg : Bool} (h : NumAt l i neg j n) {c : UInt8} (hc : l[j]? = some c) (hd : isDigit c = true) (hm : 10 * n + dig c ≤ maxNumber) :
    NumAt l i neg (j + 1) (10 * n + dig c) := by
  refine ⟨hm, .inr ?_⟩
  rcases h.2 with ⟨rfl, rfl, h0⟩ | ⟨hlt, hr⟩
  · refine ⟨by omega, fun k => ?_⟩
    rw [R_go hc (num0_digit neg k hd (fun e => h0 (by rw [hc, e])))]
    simp
  · refine ⟨by omega, fun k => ?_⟩
    rw [hr k, R_go (s' := ⟨.num neg (10 * n + dig c), k⟩) hc]
    simp [δ, hd]; omega

theorem NumAt.over {l : Bs} {i j n : Nat} {neg : Bool} (h : NumAt l i neg j n) {c : UInt8} (hc : l[j]? = some c) (hd : isDigit c = true) (hm : maxNumber < 10 * n + dig c) (k : List Fr) :
    R l i (num0 neg k) = .bad eValue j := by
  have h9 := dig_le hd
  rcases h.2 with ⟨rfl, rfl, h0⟩ | ⟨hlt, hr⟩
  · simp [maxNumber] at hm; omega
  · rw [hr k, R_bad (e := eValue) hc]
    simp [δ, hd, hm]

theorem NumAt.stop {l : Bs} {i j n : Nat} {neg : Bool} (h : NumAt l i neg j n) (hij : i < j) (hd : ∀ c, l[j]? = some c → isDigit c = false) (k : List Fr) :
    R l i (num0 neg k) = R l j ⟨.after (.num (signed neg n)), k⟩ := by
  rcases h.2 with ⟨rfl, _, _⟩ | ⟨hlt, hr⟩
  · omega
  · rw [hr k]
    cases hc : l[j]? with
    | none =>
      have hl := List.getElem?_eq_none_iff.1 hc
      rw [R_end hl, R_end hl]
      cases k <;> simp [eof]
    | some c =>
      rw [R_at hc, R_at hc]
      simp [δ, hd c hc]

/-- A word's letters, one by one. -/
theorem R_word {l : Bs} (ws : Bs) (v : JV) : ∀ (i : Nat) (k : List Fr), ws ≠ [] → (∀ j, j < ws.length → l[i + j]? = ws[j]?) → R l i ⟨.word ws v, k⟩ = R l (i + ws.length) ⟨.after v, k⟩ := by
  induction ws with
  | nil => intro i k h; exact absurd rfl h
  | cons x r ih =>
    intro i k _ hm
    have h0 : l[i]? = some x := by simpa using hm 0 (by simp)
    by_cases hr : r = []
    · subst hr
      rw [R_go (s' := ⟨.after v, k⟩) h0]
      · rfl
      · simp [δ]
    · rw [R_go (s' := ⟨.word r v, k⟩) h0]
      · rw [ih (i + 1) k hr, List.length_cons, show i + 1 + r.length = i + (r.length + 1) from by omega]
        intro j hj
        have := hm (j + 1) (by simpa using hj)
        rw [show i + 1 + j = i + (j + 1) from by omega, this]; simp
      · simp [δ, hr]

theorem R_word_bad {l : Bs} (ws : Bs) (v : JV) : ∀ (i : Nat) (k : List Fr) (j : Nat), j < ws.length → (∀ m, m < j → l[i + m]? = ws[m]?) → l[i + j]? ≠ ws[j]? → i + j ≤ l.length →
    R l i ⟨.word ws v, k⟩ = .bad eForm (i + j) := by
  induction ws with
  | nil => intro i k j h; simp at h
  | cons x r ih =>
    intro i k j hj hm hn hl
    cases j with
    | zero =>
      simp at hn
      cases hc : l[i]? with
      | none =>
        have hle := List.getElem?_eq_none_iff.1 hc
        rw [R_end hle]
        have : i = l.length := by omega
        simp [eof]
      | some c =>
        rw [hc] at hn
        rw [R_bad (e := eForm) hc]
        · rfl
        · have : c ≠ x := fun e => hn (by rw [e])
          simp [δ, this]
    | succ j =>
      have h0 : l[i]? = some x := by simpa using hm 0 (by omega)
      have hr : r ≠ [] := by rintro rfl; simp at hj
      rw [R_go (s' := ⟨.word r v, k⟩) h0]
      · rw [ih (i + 1) k j (by simpa using hj) _ _ (by omega), show i + 1 + j = i + (j + 1) from by omega]
        · intro m hmj
          have := hm (m + 1) (by omega)
          rw [show i + 1 + m = i + (m + 1) from by omega, this]; simp
        · rw [show i + 1 + j = i + (j + 1) from by omega]; simpa using hn
      · simp [δ, hr]

end Go.Proofs.YthgcnmdnjfajbaaGreatDoor.Jot
