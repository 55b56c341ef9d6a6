/- Walk of package jot: what a value says to callers: the methods jot. Conditions: none. -/
import Derived.Test.YthgcnmdnjfajbaaGreatDoorJotWalkO
import Derived.Deep.RegionHeld3
import Derived.Deep.AppendLies
import Derived.Deep.DrawnRows
namespace Go.Proofs.YthgcnmdnjfajbaaGreatDoor
open Go.RowKit
namespace Jot

/-- A value as callers have it. -/
inductive J where
  | mk (kind num : Int) (text : Bs) (names : List Bs) (items : List J)
  deriving Inhabited

mutual
def jotOf : JV → J
  | .null => .mk 0 0 [] [] []
  | .truth b => .mk (if b then 2 else 1) 0 [] [] []
  | .num n => .mk 3 n [] [] []
  | .text s => .mk 4 0 s [] []
  | .list l => .mk 5 0 [] [] (jotsOf l)
  | .obj m => .mk 6 0 [] (m.map (·.1)) (memsOf m)
def jotsOf : List JV → List J
  | [] => []
  | v :: l => jotOf v :: jotsOf l
def memsOf : List (Bs × JV) → List J
  | [] => []
  | (_, v) :: l => jotOf v :: memsOf l
end

mutual
/-- v is the value j as callers have it; its rows lie in blocks that P lets. -/
def IsJot (w : World) (P : Nat → Prop) : J → Value → Prop
  | .mk k n t ns its, v => ∃ an cn ai ci vs, v = .agg #[.int .i64 k, .int .i64 n, str t, .slice an ns.length cn, .slice ai its.length ci] ∧ Row w P 9 1 (.slice an ns.length cn) ns.length (ns.map str) ∧ Row w P 26 5 (.slice ai its.length ci) its.length vs ∧ IsJots w P its vs
def IsJots (w : World) (P : Nat → Prop) : List J → List Value → Prop
  | [], vs => vs = []
  | j :: l, vs => ∃ a b c d e r, vs = a :: b :: c :: d :: e :: r ∧ IsJot w P j (.agg #[a, b, c, d, e]) ∧ IsJots w P l r
end

mutual
theorem IsJot.move {w w' : World} {P P' : Nat → Prop} (hk : ∀ b, P b → b < w.heap.size → w'.heap[b]? = w.heap[b]? ∧ P' b) : ∀ (j : J) (v : Value), IsJot w P j v → IsJot w' P' j v
  | .mk k n t ns its, v, h => by
    simp only [IsJot] at h ⊢
    obtain ⟨an, cn, ai, ci, vs, hv, h1, h2, h3⟩ := h
    exact ⟨an, cn, ai, ci, vs, hv, h1.move hk, h2.move hk, IsJots.move hk its vs h3⟩
theorem IsJots.move {w w' : World} {P P' : Nat → Prop} (hk : ∀ b, P b → b < w.heap.size → w'.heap[b]? = w.heap[b]? ∧ P' b) : ∀ (l : List J) (vs : List Value), IsJots w P l vs → IsJots w' P' l vs
  | [], vs, h => by simpa only [IsJots] using h
  | j :: l, vs, h => by
    simp only [IsJots] at h ⊢
    obtain ⟨a, b, c, d, e, r, hv, h1, h2⟩ := h
    exact ⟨a, b, c, d, e, r, hv, IsJot.move hk j _ h1, IsJots.move hk l r h2⟩
end
theorem IsJot.bound {w : World} {P : Nat → Prop} {j : J} {v : Value} (h : IsJot w P j v) : IsJot w (fun b => P b ∧ b < w.heap.size) j v :=
  IsJot.move (fun _ hp hb => ⟨rfl, hp, hb⟩) j v h
theorem IsJots.bound {w : World} {P : Nat → Prop} {j : List J} {v : List Value} (h : IsJots w P j v) : IsJots w (fun b => P b ∧ b < w.heap.size) j v :=
  IsJots.move (fun _ hp hb => ⟨rfl, hp, hb⟩) j v h
theorem IsJots.snoc {w : World} {P : Nat → Prop} {j : J} {a b c d e : Value} : ∀ (l : List J) (vs : List Value), IsJots w P l vs → IsJot w P j (.agg #[a, b, c, d, e]) → IsJots w P (l ++ [j]) (vs ++ [a, b, c, d, e])
  | [], vs, h, hv => by
    simp only [IsJots] at h; subst h
    simp only [List.nil_append, IsJots]
    exact ⟨a, b, c, d, e, [], rfl, hv, rfl⟩
  | x :: l, vs, h, hv => by
    simp only [IsJots] at h
    obtain ⟨a', b', c', d', e', r, rfl, h1, h2⟩ := h
    simp only [List.cons_append, IsJots]
    exact ⟨a', b', c', d', e', r ++ [a, b, c, d, e], rfl, h1, IsJots.snoc l r h2 hv⟩
theorem IsJots.length {w : World} {P : Nat → Prop} : ∀ (l : List J) (vs : List Value), IsJots w P l vs → vs.length = l.length * 5
  | [], vs, h => by simp only [IsJots] at h; subst h; rfl
  | x :: l, vs, h => by
    simp only [IsJots] at h
    obtain ⟨a', b', c', d', e', r, rfl, h1, h2⟩ := h
    simp [IsJots.length l r h2]; omega
theorem jotsOf_length : ∀ l, (jotsOf l).length = l.length
  | [] => rfl
  | _ :: l => by simp [jotsOf, jotsOf_length l]
theorem memsOf_length : ∀ l, (memsOf l).length = l.length
  | [] => rfl
  | (_, _) :: l => by simp [memsOf, memsOf_length l]

/-- What the method jot comes to. -/
def ToPost (jv : JV) (w : World) (e : Ending) (w' : World) : Prop :=
  ∃ (k n : Int) (t : Bs) (an : Option Addr) (ln cn : Nat) (ai : Option Addr) (li ci : Nat), e = .returned (.agg #[.int .i64 k, .int .i64 n, str t, .slice an ln cn, .slice ai li ci]) ∧ KeptB w.heap.size w.heap.size w w' ∧
    IsJot w' (fun k => w.heap.size ≤ k) (jotOf jv) (.agg #[.int .i64 k, .int .i64 n, str t, .slice an ln cn, .slice ai li ci])

theorem ToPost.empty (k n : Int) (t : Bs) (jv : JV) (hj : jotOf jv = .mk k n t [] []) (w : World) (w' : World) (hk : KeptB w.heap.size w.heap.size w w') :
    ToPost jv w (.returned (.agg #[.int .i64 k, .int .i64 n, str t, .slice none 0 0, .slice none 0 0])) w' := by
  refine ⟨_, _, _, _, _, _, _, _, _, rfl, hk, ?_⟩
  rw [hj]
  exact ⟨_, _, _, _, [], rfl, ⟨World.ownsRow_nil _ _ _ _, fun g hg => by simp [Value.ownBlock] at hg⟩, ⟨World.ownsRow_nil _ _ _ _, fun g hg => by simp [Value.ownBlock] at hg⟩, rfl⟩

theorem null_jot (w : World) : Calls Tryz.prog 126 #[.agg #[]] w (ToPost .null w) := by
  go_enter Tryz.func126, Tryz.ntmps126
  go_wp2_with fail
  refine bodyPost_ret (by simp [results, Tryz.results126, go_sem]; try rfl) rfl ?_
  exact ToPost.empty 0 0 [] .null rfl _ _ (by repeat (first | exact KeptB.refl _ _ _ | refine KeptB.drew ?_ | refine KeptB.alloc ?_ (by simp) _))

theorem truth_jot (b : Bool) (w : World) : Calls Tryz.prog 127 #[.bool b] w (ToPost (.truth b) w) := by
  go_enter Tryz.func127, Tryz.ntmps127
  cases b
  · go_wp2_with fail
    refine bodyPost_ret (by simp [results, Tryz.results127, go_sem]; try rfl) rfl ?_
    exact ToPost.empty 1 0 [] (.truth false) rfl _ _ (by repeat (first | exact KeptB.refl _ _ _ | refine KeptB.drew ?_ | refine KeptB.alloc ?_ (by simp) _))
  · go_wp2_with fail
    refine bodyPost_ret (by simp [results, Tryz.results127, go_sem]; try rfl) rfl ?_
    exact ToPost.empty 2 0 [] (.truth true) rfl _ _ (by repeat (first | exact KeptB.refl _ _ _ | refine KeptB.drew ?_ | refine KeptB.alloc ?_ (by simp) _))

theorem number_jot (n : Int) (w : World) : Calls Tryz.prog 129 #[.int .i64 n] w (ToPost (.num n) w) := by
  go_enter Tryz.func129, Tryz.ntmps129
  go_wp2_with fail
  refine bodyPost_ret (by simp [results, Tryz.results129, go_sem]; try rfl) rfl ?_
  exact ToPost.empty 3 n [] (.num n) rfl _ _ (by repeat (first | exact KeptB.refl _ _ _ | refine KeptB.drew ?_ | refine KeptB.alloc ?_ (by simp) _))

theorem text_jot (s : Bs) (w : World) : Calls Tryz.prog 128 #[str s] w (ToPost (.text s) w) := by
  unfold str
  go_enter Tryz.func128, Tryz.ntmps128
  go_wp2_with fail
  refine bodyPost_ret (by simp [results, Tryz.results128, go_sem]; try rfl) rfl ?_
  exact ToPost.empty 4 0 s (.text s) rfl _ _ (by repeat (first | exact KeptB.refl _ _ _ | refine KeptB.drew ?_ | refine KeptB.alloc ?_ (by simp) _))

end Jot
end Go.Proofs.YthgcnmdnjfajbaaGreatDoor
