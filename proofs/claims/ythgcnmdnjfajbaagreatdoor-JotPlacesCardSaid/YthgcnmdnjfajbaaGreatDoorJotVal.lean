/- How the values that jot reads lie in memory. Conditions: none. -/
import Derived.Test.YthgcnmdnjfajbaaGreatDoorJotWalkI
namespace Go.Proofs.YthgcnmdnjfajbaaGreatDoor
open Go.RowKit
namespace Jot

/-- A slice that reads as these cells, in a row of a block that P lets. -/
def Row (w : World) (P : Nat → Prop) (e : TypeId) (size : Nat) (sl : Value) (n : Nat) (cells : List Value) : Prop :=
  w.ownsRow 0 e size sl n cells ∧ ∀ g, sl.ownBlock = some g → P g

mutual
/-- The interface value v is the value j; all its rows lie in blocks that P lets. -/
def IsVal (w : World) (P : Nat → Prop) : JV → Value → Prop
  | .null, v => v = .iface 62 (.agg #[])
  | .truth b, v => v = .iface 63 (.bool b)
  | .num n, v => v = .iface 72 (.int .i64 n)
  | .text s, v => v = .iface 64 (.string ⟨s.toArray⟩)
  | .list l, v => ∃ sl vs, v = .iface 77 sl ∧ l.length ≤ 4000 ∧ Row w P 44 1 sl l.length vs ∧ IsVals w P l vs
  | .obj m, v => ∃ sl vs, v = .iface 79 sl ∧ m.length ≤ 4000 ∧ Row w P 81 2 sl m.length vs ∧ IsMems w P m vs
def IsVals (w : World) (P : Nat → Prop) : List JV → List Value → Prop
  | [], vs => vs = []
  | j :: l, vs => ∃ v r, vs = v :: r ∧ IsVal w P j v ∧ IsVals w P l r
def IsMems (w : World) (P : Nat → Prop) : List (Bs × JV) → List Value → Prop
  | [], vs => vs = []
  | (n, j) :: l, vs => ∃ v r, vs = .string ⟨n.toArray⟩ :: v :: r ∧ IsVal w P j v ∧ IsMems w P l r
end

theorem Row.move {w w' : World} {P P' : Nat → Prop} {e : TypeId} {size : Nat} {sl : Value} {n : Nat} {cells : List Value} (h : Row w P e size sl n cells)
    (hk : ∀ b, P b → b < w.heap.size → w'.heap[b]? = w.heap[b]? ∧ P' b) : Row w' P' e size sl n cells := by
  obtain ⟨⟨h1, h2⟩, hp⟩ := h
  rcases h2 with ⟨rfl, hn⟩ | ⟨g, cap, cur, rfl, hg, hh, r⟩
  · exact ⟨⟨h1, .inl ⟨rfl, hn⟩⟩, fun g hg => by simp [Value.ownBlock] at hg⟩
  · have hlt := (Array.getElem?_eq_some_iff.1 hh).1
    have hkk := hk g (hp g rfl) hlt
    exact ⟨⟨h1, .inr ⟨g, cap, cur, rfl, hg, hkk.1.trans hh, r⟩⟩, fun g' hg' => by simp [Value.ownBlock] at hg'; subst hg'; exact hkk.2⟩

mutual
/-- The value is still there in a world in which its blocks are as they were. -/
theorem IsVal.move {w w' : World} {P P' : Nat → Prop} (hk : ∀ b, P b → b < w.heap.size → w'.heap[b]? = w.heap[b]? ∧ P' b) : ∀ (j : JV) (v : Value), IsVal w P j v → IsVal w' P' j v
  | .null, v, h => by simpa only [IsVal] using h
  | .truth b, v, h => by simpa only [IsVal] using h
  | .num n, v, h => by simpa only [IsVal] using h
  | .text s, v, h => by simpa only [IsVal] using h
  | .list l, v, h => by
    simp only [IsVal] at h ⊢
    obtain ⟨sl, vs, hv, hn, hr, hs⟩ := h
    exact ⟨sl, vs, hv, hn, hr.move hk, IsVals.move hk l vs hs⟩
  | .obj m, v, h => by
    simp only [IsVal] at h ⊢
    obtain ⟨sl, vs, hv, hn, hr, hs⟩ := h
    exact ⟨sl, vs, hv, hn, hr.move hk, IsMems.move hk m vs hs⟩
theorem IsVals.move {w w' : World} {P P' : Nat → Prop} (hk : ∀ b, P b → b < w.heap.size → w'.heap[b]? = w.heap[b]? ∧ P' b) : ∀ (l : List JV) (vs : List Value), IsVals w P l vs → IsVals w' P' l vs
  | [], vs, h => by simpa only [IsVals] using h
  | j :: l, vs, h => by
    simp only [IsVals] at h ⊢
    obtain ⟨v, r, hv, h1, h2⟩ := h
    exact ⟨v, r, hv, IsVal.move hk j v h1, IsVals.move hk l r h2⟩
theorem IsMems.move {w w' : World} {P P' : Nat → Prop} (hk : ∀ b, P b → b < w.heap.size → w'.heap[b]? = w.heap[b]? ∧ P' b) : ∀ (l : List (Bs × JV)) (vs : List Value), IsMems w P l vs → IsMems w' P' l vs
  | [], vs, h => by simpa only [IsMems] using h
  | (n, j) :: l, vs, h => by
    simp only [IsMems] at h ⊢
    obtain ⟨v, r, hv, h1, h2⟩ := h
    exact ⟨v, r, hv, IsVal.move hk j v h1, IsMems.move hk l r h2⟩
end

/-- .. and its blocks are blocks that there are. -/
theorem IsVal.bound {w : World} {P : Nat → Prop} {j : JV} {v : Value} (h : IsVal w P j v) : IsVal w (fun b => P b ∧ b < w.heap.size) j v :=
  IsVal.move (fun _ hp hb => ⟨rfl, hp, hb⟩) j v h
theorem IsVals.bound {w : World} {P : Nat → Prop} {j : List JV} {v : List Value} (h : IsVals w P j v) : IsVals w (fun b => P b ∧ b < w.heap.size) j v :=
  IsVals.move (fun _ hp hb => ⟨rfl, hp, hb⟩) j v h
theorem IsMems.bound {w : World} {P : Nat → Prop} {j : List (Bs × JV)} {v : List Value} (h : IsMems w P j v) : IsMems w (fun b => P b ∧ b < w.heap.size) j v :=
  IsMems.move (fun _ hp hb => ⟨rfl, hp, hb⟩) j v h

theorem IsVals.snoc {w : World} {P : Nat → Prop} {j : JV} {v : Value} : ∀ (l : List JV) (vs : List Value), IsVals w P l vs → IsVal w P j v → IsVals w P (l ++ [j]) (vs ++ [v])
  | [], vs, h, hv => by
    simp only [IsVals] at h; subst h
    simp only [List.nil_append, IsVals]
    exact ⟨v, [], rfl, hv, rfl⟩
  | x :: l, vs, h, hv => by
    simp only [IsVals] at h
    obtain ⟨y, r, rfl, h1, h2⟩ := h
    simp only [List.cons_append, IsVals]
    exact ⟨y, r ++ [v], rfl, h1, IsVals.snoc l r h2 hv⟩

theorem IsMems.snoc {w : World} {P : Nat → Prop} {j : JV} {v : Value} {n : Bs} : ∀ (l : List (Bs × JV)) (vs : List Value), IsMems w P l vs → IsVal w P j v → IsMems w P (l ++ [(n, j)]) (vs ++ [.string ⟨n.toArray⟩, v])
  | [], vs, h, hv => by
    simp only [IsMems] at h; subst h
    simp only [List.nil_append, IsMems]
    exact ⟨v, [], rfl, hv, rfl⟩
  | (m, x) :: l, vs, h, hv => by
    simp only [IsMems] at h
    obtain ⟨y, r, rfl, h1, h2⟩ := h
    simp only [List.cons_append, IsMems]
    exact ⟨y, r ++ [.string ⟨n.toArray⟩, v], rfl, h1, IsMems.snoc l r h2 hv⟩

theorem IsVals.length {w : World} {P : Nat → Prop} : ∀ (l : List JV) (vs : List Value), IsVals w P l vs → vs.length = l.length
  | [], vs, h => by simp only [IsVals] at h; subst h; rfl
  | x :: l, vs, h => by
    simp only [IsVals] at h
    obtain ⟨y, r, rfl, h1, h2⟩ := h
    simp [IsVals.length l r h2]

theorem IsMems.length {w : World} {P : Nat → Prop} : ∀ (l : List (Bs × JV)) (vs : List Value), IsMems w P l vs → vs.length = l.length * 2
  | [], vs, h => by simp only [IsMems] at h; subst h; rfl
  | (n, x) :: l, vs, h => by
    simp only [IsMems] at h
    obtain ⟨y, r, rfl, h1, h2⟩ := h
    simp [IsMems.length l r h2]; omega

theorem ownsRow_keptK {w w' : World} {B bp : Nat} {e : TypeId} {size : Nat} {v : Value} {n : Nat} {xs : List Value} (h : w.ownsRow B e size v n xs) (hk : Kept bp w w') (hb : bp < B) : w'.ownsRow B e size v n xs := by
  refine ⟨h.1, ?_⟩
  rcases h.2 with h2 | ⟨g, cap, cur, hv, hg, hh, r⟩
  · exact Or.inl h2
  · exact Or.inr ⟨g, cap, cur, hv, hg, by rw [hk.block g (Array.getElem?_eq_some_iff.1 hh).1 (by omega)]; exact hh, r⟩

theorem Row.of_own {w : World} {B : Nat} {e : TypeId} {size : Nat} {v : Value} {n : Nat} {xs : List Value} (h : w.ownsRow B e size v n xs) : Row w (fun b => B ≤ b) e size v n xs := by
  refine ⟨⟨h.1, ?_⟩, fun g hg => (h.lt g hg).1⟩
  rcases h.2 with h2 | ⟨g, cap, cur, hv, hg, r⟩
  · exact Or.inl h2
  · exact Or.inr ⟨g, cap, cur, hv, Nat.zero_le _, r⟩

end Jot
end Go.Proofs.YthgcnmdnjfajbaaGreatDoor
