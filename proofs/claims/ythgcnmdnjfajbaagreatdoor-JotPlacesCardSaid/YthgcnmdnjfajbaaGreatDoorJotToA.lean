/- Walk of package jot: what any value says to callers. Conditions: none. -/
import Derived.Test.YthgcnmdnjfajbaaGreatDoorJotToO
namespace Go.Proofs.YthgcnmdnjfajbaaGreatDoor
open Go.RowKit
namespace Jot

theorem meth_null (x : Value) (w : World) : (method 269 62 x "latchkey/jot.jot").run Tryz.prog w = .ok (126, x) w := by kernel_rfl
theorem meth_truth (x : Value) (w : World) : (method 269 63 x "latchkey/jot.jot").run Tryz.prog w = .ok (127, x) w := by kernel_rfl
theorem meth_number (x : Value) (w : World) : (method 269 72 x "latchkey/jot.jot").run Tryz.prog w = .ok (129, x) w := by kernel_rfl
theorem meth_text (x : Value) (w : World) : (method 269 64 x "latchkey/jot.jot").run Tryz.prog w = .ok (128, x) w := by kernel_rfl
theorem meth_list (x : Value) (w : World) : (method 269 77 x "latchkey/jot.jot").run Tryz.prog w = .ok (130, x) w := by kernel_rfl
theorem meth_object (x : Value) (w : World) : (method 269 79 x "latchkey/jot.jot").run Tryz.prog w = .ok (131, x) w := by kernel_rfl
theorem ahead_null (x : Value) (w : World) : (nilAhead 269 62 x "latchkey/jot.jot").run Tryz.prog w = .ok (some false) w := by kernel_rfl
theorem ahead_truth (x : Value) (w : World) : (nilAhead 269 63 x "latchkey/jot.jot").run Tryz.prog w = .ok (some false) w := by kernel_rfl
theorem ahead_number (x : Value) (w : World) : (nilAhead 269 72 x "latchkey/jot.jot").run Tryz.prog w = .ok (some false) w := by kernel_rfl
theorem ahead_text (x : Value) (w : World) : (nilAhead 269 64 x "latchkey/jot.jot").run Tryz.prog w = .ok (some false) w := by kernel_rfl
theorem ahead_list (x : Value) (w : World) : (nilAhead 269 77 x "latchkey/jot.jot").run Tryz.prog w = .ok (some false) w := by kernel_rfl
theorem ahead_object (x : Value) (w : World) : (nilAhead 269 79 x "latchkey/jot.jot").run Tryz.prog w = .ok (some false) w := by kernel_rfl
theorem enter_null (args : Array Value) (w : World) : (callFunc 126 args).run Tryz.prog w = .ok (.enter 126 args) w := by kernel_rfl
theorem enter_truth (args : Array Value) (w : World) : (callFunc 127 args).run Tryz.prog w = .ok (.enter 127 args) w := by kernel_rfl
theorem enter_number (args : Array Value) (w : World) : (callFunc 129 args).run Tryz.prog w = .ok (.enter 129 args) w := by kernel_rfl
theorem enter_text (args : Array Value) (w : World) : (callFunc 128 args).run Tryz.prog w = .ok (.enter 128 args) w := by kernel_rfl
theorem enter_list (args : Array Value) (w : World) : (callFunc 130 args).run Tryz.prog w = .ok (.enter 130 args) w := by kernel_rfl
theorem enter_object (args : Array Value) (w : World) : (callFunc 131 args).run Tryz.prog w = .ok (.enter 131 args) w := by kernel_rfl

mutual
theorem to_any : ∀ (jv : JV), ToAt jv
  | .null => fun P w t x h => by
    simp only [IsVal] at h; cases h
    refine ⟨_, ahead_null _, meth_null _, enter_null, fun P' w' h' => null_jot w'⟩
  | .truth b => fun P w t x h => by
    simp only [IsVal] at h; cases h
    exact ⟨_, ahead_truth _, meth_truth _, enter_truth, fun P' w' h' => truth_jot b w'⟩
  | .num n => fun P w t x h => by
    simp only [IsVal] at h; cases h
    exact ⟨_, ahead_number _, meth_number _, enter_number, fun P' w' h' => number_jot n w'⟩
  | .text s => fun P w t x h => by
    simp only [IsVal] at h; cases h
    exact ⟨_, ahead_text _, meth_text _, enter_text, fun P' w' h' => text_jot s w'⟩
  | .list l => fun P w t x h => by
    simp only [IsVal] at h
    obtain ⟨sl, vs, h1, _⟩ := h
    cases h1
    refine ⟨_, ahead_list _, meth_list _, enter_list, fun P' w' h' => ?_⟩
    simp only [IsVal] at h'
    obtain ⟨sl', vs', h1, h2, h3, h4⟩ := h'
    cases h1
    exact list_jot P' l _ vs' w' h2 h3 h4 (to_list l)
  | .obj m => fun P w t x h => by
    simp only [IsVal] at h
    obtain ⟨sl, vs, h1, _⟩ := h
    cases h1
    refine ⟨_, ahead_object _, meth_object _, enter_object, fun P' w' h' => ?_⟩
    simp only [IsVal] at h'
    obtain ⟨sl', vs', h1, h2, h3, h4⟩ := h'
    cases h1
    exact object_jot P' m _ vs' w' h2 h3 h4 (to_mems m)
theorem to_list : ∀ (l : List JV), ∀ jv ∈ l, ToAt jv
  | [] => fun jv h => by cases h
  | j :: l => fun jv h => by
    rcases List.mem_cons.1 h with h | h
    · rw [h]; exact to_any j
    · exact to_list l jv h
theorem to_mems : ∀ (m : List (Bs × JV)), ∀ x ∈ m, ToAt x.2
  | [] => fun x h => by cases h
  | (n, j) :: m => fun x h => by
    rcases List.mem_cons.1 h with h | h
    · rw [h]; exact to_any j
    · exact to_mems m x h
end

#print axioms to_any

end Jot
end Go.Proofs.YthgcnmdnjfajbaaGreatDoor
