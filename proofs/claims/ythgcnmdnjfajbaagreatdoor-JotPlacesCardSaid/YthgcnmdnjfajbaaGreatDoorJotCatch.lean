/- Walk of package jot: the deferred call of Parse. Conditions: none. -/
import Derived.Test.YthgcnmdnjfajbaaGreatDoorJotToA
import Derived.Defers
import Derived.Recover
namespace Go.Proofs.YthgcnmdnjfajbaaGreatDoor
open Go.RowKit
namespace Jot

/-- What the deferred call lays into the results. -/
def caughtAt (w : World) (b : Nat) (k p : Int) : World :=
  ((((setFive w b (.int .i64 0) (.int .i64 0) (.string ⟨#[]⟩) (.slice none 0 0) (.slice none 0 0)).setCell ⟨b + 1, 0, none⟩ (.int .i64 k)).setCell ⟨b + 2, 0, none⟩ (.int .i64 p)).alloc (.cells #[.int .i64 k, .int .i64 p] 38 (0, 0))).drew

theorem assert_wrong (k p : Int) (w : World) : (Instr.typeAssert (.iface 38 (.agg #[.int .i64 k, .int .i64 p])) 20 38 true).run Tryz.prog w = .ok (.tuple #[.agg #[.int .i64 k, .int .i64 p], .bool true]) w := by kernel_rfl

set_option maxRecDepth 100000 in
set_option maxHeartbeats 1000000 in
theorem catch_wrong (b : Nat) (k p : Int) (w : World) (v0 v1 v2 v3 v4 e0 a0 : Value)
    (hv : w.heap[b]? = some (.cells #[v0, v1, v2, v3, v4] 26 (0, 0))) (he : w.heap[b + 1]? = some (.cells #[e0] 27 (0, 0))) (ha : w.heap[b + 2]? = some (.cells #[a0] 3 (0, 0))) :
    CallsD Tryz.prog 10 #[.pointer (some ⟨b, 0, none⟩), .pointer (some ⟨b + 1, 0, none⟩), .pointer (some ⟨b + 2, 0, none⟩)] (.panicking ({ v := .iface 38 (.agg #[.int .i64 k, .int .i64 p]), recovered := false } :: [])) w fun e u' w' =>
      e = .returned (.tuple #[]) ∧ u' = .panicking ({ v := .iface 38 (.agg #[.int .i64 k, .int .i64 p]), recovered := true } :: []) ∧
      w' = caughtAt w b k p := by
  refine callsD_of_wpS Tryz.func10 rfl fun c₀ cs hu => ?_
  apply wpS_seq
  apply wpS_region
  simp [wpOpsS, go_sem, recoverD, hu, Tryz.ntmps10, Exit.thenS]
  refine wpS_of_wp ?_
  have d0 : w.cell? ⟨b, 0, none⟩ = some v0 := by simp [World.cell?, hv]
  have f0 : w.frozen? ⟨b, 0, none⟩ = false := by simp [World.frozen?, hv]
  have d1 : w.cell? ⟨b, 1, none⟩ = some v1 := by simp [World.cell?, hv]
  have f1 : w.frozen? ⟨b, 1, none⟩ = false := by simp [World.frozen?, hv]
  have d2 : w.cell? ⟨b, 2, none⟩ = some v2 := by simp [World.cell?, hv]
  have f2 : w.frozen? ⟨b, 2, none⟩ = false := by simp [World.frozen?, hv]
  have d3 : w.cell? ⟨b, 3, none⟩ = some v3 := by simp [World.cell?, hv]
  have f3 : w.frozen? ⟨b, 3, none⟩ = false := by simp [World.frozen?, hv]
  have d4 : w.cell? ⟨b, 4, none⟩ = some v4 := by simp [World.cell?, hv]
  have f4 : w.frozen? ⟨b, 4, none⟩ = false := by simp [World.frozen?, hv]
  have d5 : w.cell? ⟨b + 1, 0, none⟩ = some e0 := by simp [World.cell?, he]
  have f5 : w.frozen? ⟨b + 1, 0, none⟩ = false := by simp [World.frozen?, he]
  have d6 : w.cell? ⟨b + 2, 0, none⟩ = some a0 := by simp [World.cell?, ha]
  have f6 : w.frozen? ⟨b + 2, 0, none⟩ = false := by simp [World.frozen?, ha]
  have hl0 : b < w.heap.size := (Array.getElem?_eq_some_iff.1 hv).1
  have hl1 : b + 1 < w.heap.size := (Array.getElem?_eq_some_iff.1 he).1
  have hl2 : b + 2 < w.heap.size := (Array.getElem?_eq_some_iff.1 ha).1
  have HV := Lib.hid hv
  have HE := Lib.hid he
  have HA := Lib.hid ha
  clear hv he ha
  have hta := assert_wrong k p
  change Code.wp _ _ _ ⟨#[.pointer (some ⟨b, 0, none⟩), .pointer (some ⟨b + 1, 0, none⟩), .pointer (some ⟨b + 2, 0, none⟩), .iface 38 (.agg #[.int .i64 k, .int .i64 p]), undef, undef, .iface 38 (.agg #[.int .i64 k, .int .i64 p]), undef, undef, undef, undef, undef, undef, undef, undef, undef, undef, undef, undef, undef, undef], []⟩ _
  go_wp2_with fail
  go_region
  show bodyPostS _ _ _ _ _ _ _ _ _
  cases c₀
  simp_all [bodyPostS, results, Tryz.results10, caughtAt, setFive]

theorem assert_nil (w : World) : (Instr.typeAssert .nilIface 20 38 true).run Tryz.prog w = .ok (.tuple #[.agg #[.int .i64 0, .int .i64 0], .bool false]) w := by kernel_rfl

set_option maxRecDepth 100000 in
set_option maxHeartbeats 1000000 in
theorem catch_idle (b0 b1 b2 : Value) (w : World) :
    CallsD Tryz.prog 10 #[b0, b1, b2] .returning w fun e u' w' =>
      e = .returned (.tuple #[]) ∧ u' = .returning ∧ w' = w.alloc (.cells #[.int .i64 0, .int .i64 0] 38 (0, 0)) := by
  refine callsD_of_wpS Tryz.func10 rfl fun c₀ cs hu => ?_
  apply wpS_seq
  apply wpS_region
  simp [wpOpsS, go_sem, recoverD, hu, Tryz.ntmps10, Exit.thenS]
  refine wpS_of_wp ?_
  have hta := assert_nil
  change Code.wp _ _ _ ⟨#[b0, b1, b2, .nilIface, undef, undef, .nilIface, undef, undef, undef, undef, undef, undef, undef, undef, undef, undef, undef, undef, undef, undef], []⟩ _
  go_wp2_with fail
  show bodyPostS _ _ _ _ _ _ _ _ _
  cases c₀
  simp_all [bodyPostS, results, Tryz.results10]

#print axioms catch_wrong

end Jot
end Go.Proofs.YthgcnmdnjfajbaaGreatDoor
