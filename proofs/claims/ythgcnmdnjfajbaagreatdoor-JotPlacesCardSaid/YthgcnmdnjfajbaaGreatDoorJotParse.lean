/- Walk of package jot: Parse. Conditions: none. -/
import Derived.Test.YthgcnmdnjfajbaaGreatDoorJotCatch
namespace Go.Proofs.YthgcnmdnjfajbaaGreatDoor
open Go.RowKit
namespace Jot

/-- What Parse says: the value, what is wrong, at which byte. -/
def parse (l : Bs) : JV × Nat × Nat :=
  if maxJot < l.length then (.null, eLong, maxJot) else match readS l with | .ok v => (v, 0, 0) | .bad e p => (.null, e, p)

def ParsePost (s : ByteArray) (w : World) (e : Ending) (w' : World) : Prop :=
  ∃ (k n : Int) (t : Bs) (an : Option Addr) (ln cn : Nat) (ai : Option Addr) (li ci : Nat), e = .returned (.tuple #[.agg #[.int .i64 k, .int .i64 n, str t, .slice an ln cn, .slice ai li ci], .int .i64 ((parse (L s)).2.1 : Int), .int .i64 ((parse (L s)).2.2 : Int)]) ∧
    KeptB w.heap.size w.heap.size w w' ∧ IsJot w' (fun b => w.heap.size ≤ b) (jotOf (parse (L s)).1) (.agg #[.int .i64 k, .int .i64 n, str t, .slice an ln cn, .slice ai li ci])

theorem ParsePost.zero {s : ByteArray} {w w' : World} {k p : Nat} (hp : parse (L s) = (.null, k, p)) (hk : KeptB w.heap.size w.heap.size w w') :
    ParsePost s w (.returned (.tuple #[.agg #[.int .i64 0, .int .i64 0, .string ⟨#[]⟩, .slice none 0 0, .slice none 0 0], .int .i64 (k : Int), .int .i64 (p : Int)])) w' := by
  refine ⟨0, 0, [], none, 0, 0, none, 0, 0, by rw [hp]; rfl, hk, ?_⟩
  rw [hp]
  exact ⟨_, _, _, _, [], rfl, Row.nil _ _ _ _, Row.nil _ _ _ _, rfl⟩

set_option maxRecDepth 100000 in
set_option maxHeartbeats 2000000 in
theorem parse_long (s : ByteArray) (hs : 4000 < s.size) (w : World) : Calls Tryz.prog 5 #[.string s] w (ParsePost s w) := by
  have hmf : ∀ (fn : Fn) (first cap : Array Value) (w : World), (Instr.makeFunc fn first cap).run Tryz.prog w = .ok (.func fn first cap) w := fun _ _ _ _ => rfl
  have t1 : decide ((s.size : Int) > 4000) = true := by simp; omega
  have HP := Lib.hid (show parse (L s) = (.null, 44, 4000) by unfold parse; rw [if_pos (by rw [L_len]; exact hs)]; rfl)
  go_enter_defers Tryz.func5, Tryz.ntmps5
  go_wp2_with fail
  refine ⟨_, by simp [results, Tryz.results5, go_sem]; try rfl, ?_⟩
  exact ParsePost.zero (k := 44) (p := 4000) HP.out ((((KeptB.refl _ _ _).alloc (by simp <;> omega) _).alloc (by simp <;> omega) _).alloc (by simp <;> omega) _)

theorem At.new {w : World} {o : Obj} {b : Nat} {s : ByteArray} (h : w.heap.size = b) (ho : o = .cells #[.string s, .int .i64 0, .int .i64 0] 42 (0, 0)) : At (w.alloc o) b s 0 0 := by
  subst h; subst ho; exact heap_alloc_new _ _

/-- The world in which the parser begins. -/
def begun (w : World) (s : ByteArray) : World :=
  (((w.alloc (.cells #[.int .i64 0, .int .i64 0, .string ⟨#[]⟩, .slice none 0 0, .slice none 0 0] 26 (0, 0))).alloc (.cells #[.int .i64 0] 27 (0, 0))).alloc (.cells #[.int .i64 0] 3 (0, 0))).alloc (.cells #[.string s, .int .i64 0, .int .i64 0] 42 (0, 0))

structure Begun (w : World) (s : ByteArray) (wb : World) : Prop where
  kept : KeptB w.heap.size w.heap.size w wb
  size : wb.heap.size = w.heap.size + 4
  v : wb.heap[w.heap.size]? = some (.cells #[.int .i64 0, .int .i64 0, .string ⟨#[]⟩, .slice none 0 0, .slice none 0 0] 26 (0, 0))
  e : wb.heap[w.heap.size + 1]? = some (.cells #[.int .i64 0] 27 (0, 0))
  a : wb.heap[w.heap.size + 2]? = some (.cells #[.int .i64 0] 3 (0, 0))
  p : At wb (w.heap.size + 3) s 0 0

theorem begun_is (w : World) (s : ByteArray) : Begun w s (begun w s) := by
  unfold begun
  refine ⟨((((KeptB.refl _ _ _).alloc (by simp <;> omega) _).alloc (by simp <;> omega) _).alloc (by simp <;> omega) _).alloc (by simp <;> omega) _, by simp, ?_, ?_, ?_, At.new (by simp) rfl⟩
  · rw [Below.heap_alloc _ _ _ (by simp <;> omega), Below.heap_alloc _ _ _ (by simp <;> omega), Below.heap_alloc _ _ _ (by simp <;> omega)]; exact heap_alloc_new _ _
  · rw [Below.heap_alloc _ _ _ (by simp <;> omega), Below.heap_alloc _ _ _ (by simp <;> omega)]; exact heap_alloc_at _ _ (by simp)
  · rw [Below.heap_alloc _ _ _ (by simp <;> omega)]; exact heap_alloc_at _ _ (by simp)

theorem Kept.toB' {bp B : Nat} {w w' : World} (h : Kept bp w w') (hB : B ≤ bp ∧ B ≤ w.heap.size) : KeptB B B w w' :=
  ⟨h.os, h.tape, h.output, h.size, fun k hk _ => h.block k (by omega) (by omega)⟩

theorem caught_is {w : World} {b : Nat} (k p : Int) {v0 v1 v2 v3 v4 e0 a0 : Value}
    (hv : w.heap[b]? = some (.cells #[v0, v1, v2, v3, v4] 26 (0, 0))) (he : w.heap[b + 1]? = some (.cells #[e0] 27 (0, 0))) (ha : w.heap[b + 2]? = some (.cells #[a0] 3 (0, 0))) :
    (caughtAt w b k p).heap[b]? = some (.cells #[.int .i64 0, .int .i64 0, .string ⟨#[]⟩, .slice none 0 0, .slice none 0 0] 26 (0, 0)) ∧ (caughtAt w b k p).heap[b + 1]? = some (.cells #[.int .i64 k] 27 (0, 0)) ∧
    (caughtAt w b k p).heap[b + 2]? = some (.cells #[.int .i64 p] 3 (0, 0)) ∧ KeptB b b w (caughtAt w b k p) := by
  have hl0 : b < w.heap.size := (Array.getElem?_eq_some_iff.1 hv).1
  have hl1 : b + 1 < w.heap.size := (Array.getElem?_eq_some_iff.1 he).1
  have hl2 : b + 2 < w.heap.size := (Array.getElem?_eq_some_iff.1 ha).1
  have s5 : (setFive w b (.int .i64 0) (.int .i64 0) (.string ⟨#[]⟩) (.slice none 0 0) (.slice none 0 0)).heap[b]? = some (.cells #[.int .i64 0, .int .i64 0, .string ⟨#[]⟩, .slice none 0 0, .slice none 0 0] 26 (0, 0)) := by
    rw [heap_set_same (heap_set_same (heap_set_same (heap_set_same (heap_set_same hv))))]; rfl
  have far := fun c (h : c ≠ b) => setFive_far (w := w) (b := b) (.int .i64 0) (.int .i64 0) (.string ⟨#[]⟩) (.slice none 0 0) (.slice none 0 0) c trivial h
  have sz := setFive_size w b (.int .i64 0) (.int .i64 0) (.string ⟨#[]⟩) (.slice none 0 0) (.slice none 0 0)
  have K5 := setFive_kept (KeptB.refl b b w) (Nat.le_refl b) (.int .i64 0) (.int .i64 0) (.string ⟨#[]⟩) (.slice none 0 0) (.slice none 0 0)
  unfold caughtAt
  generalize setFive w b (.int .i64 0) (.int .i64 0) (.string ⟨#[]⟩) (.slice none 0 0) (.slice none 0 0) = w5 at *
  have g1 : w5.heap[b + 1]? = some (.cells #[e0] 27 (0, 0)) := (far _ (by omega)).trans he
  have g2 : w5.heap[b + 2]? = some (.cells #[a0] 3 (0, 0)) := (far _ (by omega)).trans ha
  refine ⟨?_, ?_, ?_, ?_⟩
  · refine (Below.heap_alloc _ _ _ (by simp <;> omega)).trans ?_
    rw [heap_set_far _ _ _ _ (by omega), heap_set_far _ _ _ _ (by omega)]; exact s5
  · refine (Below.heap_alloc _ _ _ (by simp <;> omega)).trans ?_
    rw [heap_set_far _ _ _ _ (by omega), heap_set_same g1]; rfl
  · refine (Below.heap_alloc _ _ _ (by simp <;> omega)).trans ?_
    rw [heap_set_same ((heap_set_far w5 (b + 1) 0 _ (by omega)).trans g2)]; rfl
  · exact ((((K5.setGe (by omega) 0 _).setGe (by omega) 0 _)).alloc (by simp <;> omega) _).drew

theorem parse_panicked {s : ByteArray} {w wb w2 : World} (B : Begun w s wb) (K : Kept (w.heap.size + 3) wb w2) {k p : Nat} (hp : parse (L s) = (.null, k, p)) {tmps : Array Value}
    (h2 : tmps[2]? = some (.pointer (some ⟨w.heap.size, 0, none⟩))) (h3 : tmps[3]? = some (.pointer (some ⟨w.heap.size + 1, 0, none⟩))) (h4 : tmps[4]? = some (.pointer (some ⟨w.heap.size + 2, 0, none⟩))) :
    bodyPostD Tryz.prog Tryz.f5 (ParsePost s w) (.panic [{ v := .iface 38 (.agg #[.int .i64 k, .int .i64 p]), recovered := false }])
      ⟨tmps, [{ target := .fn (.func 10) #[.pointer (some ⟨w.heap.size, 0, none⟩), .pointer (some ⟨w.heap.size + 1, 0, none⟩), .pointer (some ⟨w.heap.size + 2, 0, none⟩)], args := #[] }]⟩ w2 := by
  have hsz := B.size
  have g0 := (K.block _ (by omega) (by omega)).trans B.v
  have g1 := (K.block (w.heap.size + 1) (by omega) (by omega)).trans B.e
  have g2 := (K.block (w.heap.size + 2) (by omega) (by omega)).trans B.a
  refine leaves_cons (f := 10) (args := #[.pointer (some ⟨w.heap.size, 0, none⟩), .pointer (some ⟨w.heap.size + 1, 0, none⟩), .pointer (some ⟨w.heap.size + 2, 0, none⟩)]) (by simp) (by simp [go_sem]) ?_
  refine (catch_wrong w.heap.size k p w2 _ _ _ _ _ _ _ g0 g1 g2).mono ?_
  rintro e u' w'' ⟨rfl, rfl, rfl⟩
  obtain ⟨q0, q1, q2, q3⟩ := caught_is k p g0 g1 g2
  have r0 : (caughtAt w2 w.heap.size k p).cell? ⟨w.heap.size, 0, none⟩ = some (.int .i64 0) := by simp only [World.cell?, q0]; rfl
  have r1 : (caughtAt w2 w.heap.size k p).cell? ⟨w.heap.size, 1, none⟩ = some (.int .i64 0) := by simp only [World.cell?, q0]; rfl
  have r2 : (caughtAt w2 w.heap.size k p).cell? ⟨w.heap.size, 2, none⟩ = some (.string ⟨#[]⟩) := by simp only [World.cell?, q0]; rfl
  have r3 : (caughtAt w2 w.heap.size k p).cell? ⟨w.heap.size, 3, none⟩ = some (.slice none 0 0) := by simp only [World.cell?, q0]; rfl
  have r4 : (caughtAt w2 w.heap.size k p).cell? ⟨w.heap.size, 4, none⟩ = some (.slice none 0 0) := by simp only [World.cell?, q0]; rfl
  have r5 : (caughtAt w2 w.heap.size k p).cell? ⟨w.heap.size + 1, 0, none⟩ = some (.int .i64 k) := by simp only [World.cell?, q1]; rfl
  have r6 : (caughtAt w2 w.heap.size k p).cell? ⟨w.heap.size + 2, 0, none⟩ = some (.int .i64 p) := by simp only [World.cell?, q2]; rfl
  have hk : KeptB w.heap.size w.heap.size w (caughtAt w2 w.heap.size k p) := (B.kept.trans (K.toB' ⟨by omega, by omega⟩)).trans q3
  generalize caughtAt w2 w.heap.size k p = w3 at *
  refine ⟨_, by simp [results, Tryz.results5, go_sem, h2, h3, h4, r0, r1, r2, r3, r4, r5, r6]; try rfl, ?_⟩
  exact ParsePost.zero hp hk

/-- The value, laid into the results. -/
abbrev laidAt (w : World) (b : Nat) (u0 u1 u2 u3 u4 : Value) : World := ((setFive w b u0 u1 u2 u3 u4).setCell ⟨b + 1, 0, none⟩ (.int .i64 0)).setCell ⟨b + 2, 0, none⟩ (.int .i64 0)

theorem laid_is {w : World} {b : Nat} (u0 u1 u2 u3 u4 : Value) {v0 v1 v2 v3 v4 e0 a0 : Value}
    (hv : w.heap[b]? = some (.cells #[v0, v1, v2, v3, v4] 26 (0, 0))) (he : w.heap[b + 1]? = some (.cells #[e0] 27 (0, 0))) (ha : w.heap[b + 2]? = some (.cells #[a0] 3 (0, 0))) :
    (laidAt w b u0 u1 u2 u3 u4).heap[b]? = some (.cells #[u0, u1, u2, u3, u4] 26 (0, 0)) ∧ (laidAt w b u0 u1 u2 u3 u4).heap[b + 1]? = some (.cells #[.int .i64 0] 27 (0, 0)) ∧
    (laidAt w b u0 u1 u2 u3 u4).heap[b + 2]? = some (.cells #[.int .i64 0] 3 (0, 0)) ∧ KeptB b b w (laidAt w b u0 u1 u2 u3 u4) ∧ (laidAt w b u0 u1 u2 u3 u4).heap.size = w.heap.size ∧
    ∀ c, c ≠ b → c ≠ b + 1 → c ≠ b + 2 → (laidAt w b u0 u1 u2 u3 u4).heap[c]? = w.heap[c]? := by
  have s5 : (setFive w b u0 u1 u2 u3 u4).heap[b]? = some (.cells #[u0, u1, u2, u3, u4] 26 (0, 0)) := by
    rw [heap_set_same (heap_set_same (heap_set_same (heap_set_same (heap_set_same hv))))]; rfl
  have far := fun c (h : c ≠ b) => setFive_far (w := w) (b := b) u0 u1 u2 u3 u4 c trivial h
  have sz := setFive_size w b u0 u1 u2 u3 u4
  have K5 := setFive_kept (KeptB.refl b b w) (Nat.le_refl b) u0 u1 u2 u3 u4
  unfold laidAt
  generalize setFive w b u0 u1 u2 u3 u4 = w5 at *
  have g1 : w5.heap[b + 1]? = some (.cells #[e0] 27 (0, 0)) := (far _ (by omega)).trans he
  have g2 : w5.heap[b + 2]? = some (.cells #[a0] 3 (0, 0)) := (far _ (by omega)).trans ha
  refine ⟨?_, ?_, ?_, ?_, ?_, ?_⟩
  · rw [heap_set_far _ _ _ _ (by omega), heap_set_far _ _ _ _ (by omega)]; exact s5
  · rw [heap_set_far _ _ _ _ (by omega), heap_set_same g1]; rfl
  · rw [heap_set_same ((heap_set_far w5 (b + 1) 0 _ (by omega)).trans g2)]; rfl
  · exact (K5.setGe (by omega) 0 _).setGe (by omega) 0 _
  · rw [size_set, size_set, sz]
  · intro c h0 h1 h2
    rw [heap_set_far _ _ _ _ h2, heap_set_far _ _ _ _ h1, far c h0]

set_option maxRecDepth 100000 in
theorem parse_returned {s : ByteArray} {w w3 w4 : World} {jv : JV} (hp : parse (L s) = (jv, 0, 0)) (hk : KeptB w.heap.size w.heap.size w w4) {k1 n1 : Int} {t1 : Bs} {an : Option Addr} {ln cn : Nat} {ai : Option Addr} {li ci : Nat}
    (hJ : IsJot w4 (fun k => w3.heap.size ≤ k) (jotOf jv) (.agg #[.int .i64 k1, .int .i64 n1, str t1, .slice an ln cn, .slice ai li ci])) (h3 : w.heap.size + 3 ≤ w3.heap.size)
    (z0 : w4.heap[w.heap.size]? = some (.cells #[.int .i64 0, .int .i64 0, .string ⟨#[]⟩, .slice none 0 0, .slice none 0 0] 26 (0, 0)))
    (z1 : w4.heap[w.heap.size + 1]? = some (.cells #[.int .i64 0] 27 (0, 0))) (z2 : w4.heap[w.heap.size + 2]? = some (.cells #[.int .i64 0] 3 (0, 0))) {tmps : Array Value}
    (h2 : tmps[2]? = some (.pointer (some ⟨w.heap.size, 0, none⟩))) (h3' : tmps[3]? = some (.pointer (some ⟨w.heap.size + 1, 0, none⟩))) (h4 : tmps[4]? = some (.pointer (some ⟨w.heap.size + 2, 0, none⟩))) :
    bodyPostD Tryz.prog Tryz.f5 (ParsePost s w) .ret
      ⟨tmps, [{ target := .fn (.func 10) #[.pointer (some ⟨w.heap.size, 0, none⟩), .pointer (some ⟨w.heap.size + 1, 0, none⟩), .pointer (some ⟨w.heap.size + 2, 0, none⟩)], args := #[] }]⟩
      (laidAt w4 w.heap.size (.int .i64 k1) (.int .i64 n1) (.string ⟨t1.toArray⟩) (.slice an ln cn) (.slice ai li ci)) := by
  refine leaves_cons (f := 10) (args := #[.pointer (some ⟨w.heap.size, 0, none⟩), .pointer (some ⟨w.heap.size + 1, 0, none⟩), .pointer (some ⟨w.heap.size + 2, 0, none⟩)]) (by simp) (by simp [go_sem]) ?_
  refine (catch_idle _ _ _ _).mono ?_
  rintro e u' w'' ⟨rfl, rfl, rfl⟩
  obtain ⟨q0, q1, q2, q3, q4, q5⟩ := laid_is (.int .i64 k1) (.int .i64 n1) (.string ⟨t1.toArray⟩) (.slice an ln cn) (.slice ai li ci) z0 z1 z2
  have hl := (Array.getElem?_eq_some_iff.1 z2).1
  have K6 := hk.trans q3
  have hJ6 : IsJot (laidAt w4 w.heap.size (.int .i64 k1) (.int .i64 n1) (.string ⟨t1.toArray⟩) (.slice an ln cn) (.slice ai li ci)) (fun k => w.heap.size ≤ k ∧ k < w4.heap.size) (jotOf jv) (.agg #[.int .i64 k1, .int .i64 n1, str t1, .slice an ln cn, .slice ai li ci]) :=
    IsJot.move (fun b hb hlt => ⟨q5 b (by have := hb.1; omega) (by have := hb.1; omega) (by have := hb.1; omega), by have := hb.1; omega, hb.2⟩) _ _ hJ.bound
  generalize laidAt w4 w.heap.size (.int .i64 k1) (.int .i64 n1) (.string ⟨t1.toArray⟩) (.slice an ln cn) (.slice ai li ci) = w6 at *
  have al : ∀ b, b < w6.heap.size → (w6.alloc (.cells #[.int .i64 0, .int .i64 0] 38 (0, 0))).heap[b]? = w6.heap[b]? := fun b hb => Below.heap_alloc _ _ _ hb
  have y0 := (al w.heap.size (by omega)).trans q0
  have y1 := (al (w.heap.size + 1) (by omega)).trans q1
  have y2 := (al (w.heap.size + 2) (by omega)).trans q2
  have K7 : KeptB w.heap.size w.heap.size w (w6.alloc (.cells #[.int .i64 0, .int .i64 0] 38 (0, 0))) := K6.alloc (by omega) _
  have hJ7 : IsJot (w6.alloc (.cells #[.int .i64 0, .int .i64 0] 38 (0, 0))) (fun k => w.heap.size ≤ k) (jotOf jv) (.agg #[.int .i64 k1, .int .i64 n1, str t1, .slice an ln cn, .slice ai li ci]) :=
    IsJot.move (fun b hb hlt => ⟨al b (by have := hb.2; omega), hb.1⟩) _ _ hJ6
  generalize w6.alloc (.cells #[.int .i64 0, .int .i64 0] 38 (0, 0)) = w7 at *
  have r0 : w7.cell? ⟨w.heap.size, 0, none⟩ = some (.int .i64 k1) := by simp only [World.cell?, y0]; rfl
  have r1 : w7.cell? ⟨w.heap.size, 1, none⟩ = some (.int .i64 n1) := by simp only [World.cell?, y0]; rfl
  have r2 : w7.cell? ⟨w.heap.size, 2, none⟩ = some (.string ⟨t1.toArray⟩) := by simp only [World.cell?, y0]; rfl
  have r3 : w7.cell? ⟨w.heap.size, 3, none⟩ = some (.slice an ln cn) := by simp only [World.cell?, y0]; rfl
  have r4 : w7.cell? ⟨w.heap.size, 4, none⟩ = some (.slice ai li ci) := by simp only [World.cell?, y0]; rfl
  have r5 : w7.cell? ⟨w.heap.size + 1, 0, none⟩ = some (.int .i64 0) := by simp only [World.cell?, y1]; rfl
  have r6 : w7.cell? ⟨w.heap.size + 2, 0, none⟩ = some (.int .i64 0) := by simp only [World.cell?, y2]; rfl
  refine ⟨_, by simp [results, Tryz.results5, go_sem, h2, h3', h4, r0, r1, r2, r3, r4, r5, r6]; try rfl, ?_⟩
  refine ⟨k1, n1, t1, an, ln, cn, ai, li, ci, by rw [hp]; rfl, K7, ?_⟩
  rw [hp]
  exact hJ7

set_option maxRecDepth 100000 in
set_option maxHeartbeats 2000000 in
theorem parse_short (s : ByteArray) (hs : s.size ≤ 4000) (w : World) : Calls Tryz.prog 5 #[.string s] w (ParsePost s w) := by
  have hmf : ∀ (fn : Fn) (first cap : Array Value) (w : World), (Instr.makeFunc fn first cap).run Tryz.prog w = .ok (.func fn first cap) w := fun _ _ _ _ => rfl
  have t1 : decide ((s.size : Int) > 4000) = false := by simp; omega
  have t2 : ¬ ((s.size : Int) > 4000) := by omega
  have HV := Lib.hid (value_any s hs 0 (by omega) (w.heap.size + 3) 0 (begun w s) (begun_is w s).p (Nat.zero_le _))
  have HB := Lib.hid (begun_is w s)
  go_enter_defers Tryz.func5, Tryz.ntmps5
  go_wp2_with fail
  refine (HV.out).mono ?_
  rintro e w2 (⟨t, x, jv, j, hj0, hjs, ⟨rfl, A2, K2⟩, hv, hR⟩ | ⟨k, p, hp, ⟨rfl, K2⟩, hR⟩)
  · have HA := Lib.hid A2
    have HVV := Lib.hid hv
    have HR := Lib.hid hR
    clear A2 hv hR HV
    go_wp2_with fail
    refine (blanks_any (w.heap.size + 3) s j 0 _ (by exact HA.out) hjs hs).mono ?_
    rintro e w3 ⟨j2, hb, rfl, A3, K3⟩
    have HBL := Lib.hid hb
    have hj2s := hb.2.1
    have HA3 := Lib.hid A3
    have c1 := A3.c1
    have hlen := L_len s
    have H0 := Lib.hid (show readS (L s) = R (L s) j2 ⟨.after jv, []⟩ by
      unfold readS start
      rw [HR.out [] rfl, HBL.out.R (blank_after _ _)])
    by_cases hlt : j2 < s.size
    · have hc := HBL.out.2.2.2 s[j2] (L_get hlt)
      have HP := Lib.hid (show parse (L s) = (.null, 40, j2) by
        unfold parse
        rw [if_neg (by rw [L_len]; unfold maxJot; omega), H0.out, R_bad (L_get hlt) (e := 40) (by simp [δ, dAfter, hc, eForm])])
      have t3 : decide ((j2 : Int) < (s.size : Int)) = true := by simp; omega
      clear A3 hb hc
      go_wp2_with fail
      refine (fail_any (w.heap.size + 3) s j2 0 40 _ (by exact HA3.out)).mono ?_
      rintro e w4 ⟨rfl, rfl⟩
      exact parse_panicked HB.out (K2.trans K3) HP.out rfl rfl rfl
    · have he : j2 = s.size := by omega
      have HP := Lib.hid (show parse (L s) = (jv, 0, 0) by
        unfold parse
        rw [if_neg (by rw [L_len]; unfold maxJot; omega), H0.out, R_end (by rw [L_len]; omega)]
        rfl)
      have t3 : decide ((j2 : Int) < (s.size : Int)) = false := by simp; omega
      have t4 : ¬ ((j2 : Int) < (s.size : Int)) := by omega
      clear A3 hb
      have hbsz := HB.out.size
      have hv3 : IsVal w3 (fun b => (begun w s).heap.size ≤ b) jv (.iface t x) := IsVal.move (fun b hb hlt => ⟨K3.block b hb.2 (by have := hb.1; omega), hb.1⟩) _ _ HVV.out.bound
      obtain ⟨fn, hn, hm, hcf, hcall⟩ := to_any jv _ w3 t x hv3
      have HCALL := Lib.hid (hcall _ w3 hv3)
      clear hcall hv3
      go_wp2_with fail
      refine (HCALL.out).mono ?_
      rintro e w4 ⟨k1, n1, t1, an, ln, cn, ai, li, ci, rfl, K4, hJ⟩
      have HJ := Lib.hid hJ
      have KK := Lib.hid (K2.trans K3)
      have h23 : (begun w s).heap.size ≤ w3.heap.size := (K2.trans K3).size
      have z0 := (K4.block w.heap.size (by omega) (by omega)).trans ((KK.out.block w.heap.size (by omega) (by omega)).trans HB.out.v)
      have z1 := (K4.block (w.heap.size + 1) (by omega) (by omega)).trans ((KK.out.block (w.heap.size + 1) (by omega) (by omega)).trans HB.out.e)
      have z2 := (K4.block (w.heap.size + 2) (by omega) (by omega)).trans ((KK.out.block (w.heap.size + 2) (by omega) (by omega)).trans HB.out.a)
      have q0 : w4.cell? ⟨w.heap.size, 0, none⟩ = some (.int .i64 0) := by simp only [World.cell?, z0]; rfl
      have f0 : w4.frozen? ⟨w.heap.size, 0, none⟩ = false := by simp only [World.frozen?, z0]; rfl
      have q1 : w4.cell? ⟨w.heap.size, 1, none⟩ = some (.int .i64 0) := by simp only [World.cell?, z0]; rfl
      have f1 : w4.frozen? ⟨w.heap.size, 1, none⟩ = false := by simp only [World.frozen?, z0]; rfl
      have q2 : w4.cell? ⟨w.heap.size, 2, none⟩ = some (.string ⟨#[]⟩) := by simp only [World.cell?, z0]; rfl
      have f2 : w4.frozen? ⟨w.heap.size, 2, none⟩ = false := by simp only [World.frozen?, z0]; rfl
      have q3 : w4.cell? ⟨w.heap.size, 3, none⟩ = some (.slice none 0 0) := by simp only [World.cell?, z0]; rfl
      have f3 : w4.frozen? ⟨w.heap.size, 3, none⟩ = false := by simp only [World.frozen?, z0]; rfl
      have q4 : w4.cell? ⟨w.heap.size, 4, none⟩ = some (.slice none 0 0) := by simp only [World.cell?, z0]; rfl
      have f4 : w4.frozen? ⟨w.heap.size, 4, none⟩ = false := by simp only [World.frozen?, z0]; rfl
      have q5 : w4.cell? ⟨w.heap.size + 1, 0, none⟩ = some (.int .i64 0) := by simp only [World.cell?, z1]; rfl
      have f5 : w4.frozen? ⟨w.heap.size + 1, 0, none⟩ = false := by simp only [World.frozen?, z1]; rfl
      have q6 : w4.cell? ⟨w.heap.size + 1 + 1, 0, none⟩ = some (.int .i64 0) := by simp only [World.cell?, z2]; rfl
      have f6 : w4.frozen? ⟨w.heap.size + 1 + 1, 0, none⟩ = false := by simp only [World.frozen?, z2]; rfl
      have KA := Lib.hid ((HB.out.kept.trans (KK.out.toB' ⟨by omega, by omega⟩)).trans (KeptB.le K4 (by omega)))
      have HZ0 := Lib.hid z0
      have HZ1 := Lib.hid z1
      have HZ2 := Lib.hid z2
      clear hJ z0 z1 z2 K4
      unfold str
      go_wp2_with fail
      exact parse_returned HP.out KA.out HJ.out (by omega) HZ0.out HZ1.out HZ2.out rfl rfl rfl
  · have HP := Lib.hid (show parse (L s) = (.null, k, p) by
      unfold parse
      rw [if_neg (by rw [L_len]; unfold maxJot; omega)]
      unfold readS start
      rw [hR [] rfl])
    exact parse_panicked HB.out K2 HP.out rfl rfl rfl

/-- Parse, of any text. -/
theorem parse_any (s : ByteArray) (w : World) : Calls Tryz.prog 5 #[.string s] w (ParsePost s w) := by
  rcases Nat.lt_or_ge 4000 s.size with h | h
  · exact parse_long s h w
  · exact parse_short s h w

#print axioms parse_any

end Jot
end Go.Proofs.YthgcnmdnjfajbaaGreatDoor
