/- Plain laws for the walks over both readers: words, blanks; words for memory. Conditions: none. -/
import Derived.Test.YthgcnmdnjfajbaaGreatDoorJotWalkI
import Derived.Test.YthgcnmdnjfajbaaGreatDoorJotWalkD
import Derived.Test.YthgcnmdnjfajbaaGreatDoorJotPlainV
namespace Go.Proofs.YthgcnmdnjfajbaaGreatDoor
open Go.RowKit
namespace Jot

def str (s : Bs) : Value := .string ⟨s.toArray⟩

theorem KeptB.le {B B' : Nat} {w w' : World} (h : KeptB B' B' w w') (hB : B ≤ B') : KeptB B B w w' :=
  ⟨h.os, h.tape, h.output, h.size, fun k hk _ => h.block k (by omega) (by omega)⟩
theorem KeptB.toB {B bp : Nat} {w w' : World} (h : KeptB B B w w') : KeptB B bp w w' :=
  ⟨h.os, h.tape, h.output, h.size, fun k hk _ => h.block k hk (by omega)⟩

theorem KeptB.cell {B : Nat} {w w' : World} (h : KeptB B B w w') {b o : Nat} (hb : b < B) : w'.cell? ⟨b, o, none⟩ = w.cell? ⟨b, o, none⟩ := by
  simp only [World.cell?, h.block b hb (by omega)]
theorem KeptB.frozen {B : Nat} {w w' : World} (h : KeptB B B w w') {b o : Nat} (hb : b < B) : w'.frozen? ⟨b, o, none⟩ = w.frozen? ⟨b, o, none⟩ := by
  simp only [World.frozen?, h.block b hb (by omega)]

theorem word_R {l : Bs} {j : Nat} {c : UInt8} {r : Bs} {v : JV} (hr : r ≠ []) (hd : ∀ K, dVal c K = .go ⟨.word r v, K⟩) (hm : ∀ k, k < r.length + 1 → l[j + k]? = (c :: r)[k]?) (K : List Fr) :
    R l j ⟨.val, K⟩ = R l (j + (r.length + 1)) ⟨.after v, K⟩ := by
  have h0 : l[j]? = some c := by simpa using hm 0 (by omega)
  rw [val_word h0 hd K, R_word r v (j + 1) K hr (fun k hk => ?_), show j + 1 + r.length = j + (r.length + 1) from by omega]
  have := hm (k + 1) (by omega)
  rw [show j + 1 + k = j + (k + 1) from by omega, this]; simp

theorem word_R_bad {l : Bs} {j k : Nat} {c : UInt8} {r : Bs} {v : JV} (hd : ∀ K, dVal c K = .go ⟨.word r v, K⟩) (h0 : l[j]? = some c) (hk : k < r.length + 1) (hm : ∀ m, m < k → l[j + m]? = (c :: r)[m]?)
    (hn : l[j + k]? ≠ (c :: r)[k]?) (hl : j + k ≤ l.length) (K : List Fr) : R l j ⟨.val, K⟩ = .bad eForm (j + k) := by
  cases k with
  | zero => exact absurd (by simpa using h0) hn
  | succ k =>
    rw [val_word h0 hd K, R_word_bad r v (j + 1) K k (by omega) (fun m hmk => ?_) ?_ (by omega), show j + 1 + k = j + (k + 1) from by omega]
    · rw [show j + 1 + k = j + (k + 1) from by omega]; simpa using hn
    · have := hm (m + 1) (by omega)
      rw [show j + 1 + m = j + (m + 1) from by omega, this]; simp

theorem word_le {l ws : Bs} {j k : Nat} (hj : j ≤ l.length) (hk : k < ws.length) (hm : ∀ m, m < k → l[j + m]? = ws[m]?) : j + k ≤ l.length := by
  cases k with
  | zero => exact hj
  | succ k =>
    have := hm k (by omega)
    have h2 : ws[k]? ≠ none := by simp; omega
    rw [← this] at h2
    have h3 : ¬ l.length ≤ j + k := fun h => h2 (List.getElem?_eq_none_iff.2 h)
    omega

theorem blanks_one {s : ByteArray} {i j j' : Nat} (h : Blanks s i j) (h' : Blanks s i j') : j = j' := by
  obtain ⟨h1, h2, h3, h4⟩ := h
  obtain ⟨g1, g2, g3, g4⟩ := h'
  rcases Nat.lt_trichotomy j j' with hl | hl | hl
  · have hc := L_get (show j < s.size by omega)
    have a := g3 j _ h1 hl hc
    have b := h4 _ hc
    rw [a] at b; cases b
  · exact hl
  · have hc := L_get (show j' < s.size by omega)
    have a := h3 j' _ g1 hl hc
    have b := g4 _ hc
    rw [a] at b; cases b

end Jot
end Go.Proofs.YthgcnmdnjfajbaaGreatDoor
