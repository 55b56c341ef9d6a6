/- Walk of package jot: what a list says to callers. Conditions: what its parts say. -/
import Derived.Test.YthgcnmdnjfajbaaGreatDoorJotTo
namespace Go.Proofs.YthgcnmdnjfajbaaGreatDoor
open Go.RowKit
namespace Jot

theorem infoJot : (Tryz.prog.info? 26).map (fun i => (i.zero, i.size, i.bytes)) = some (some (.agg #[.int .i64 0, .int .i64 0, .string ⟨#[]⟩, .slice none 0 0, .slice none 0 0]), 5, 80) := by kernel_rfl

theorem IsVals.get {w : World} {P : Nat → Prop} : ∀ (l : List JV) (vs : List Value), IsVals w P l vs → ∀ k (hk : k < l.length), ∃ v, vs[k]? = some v ∧ IsVal w P l[k] v
  | [], _, _, k, hk => absurd hk (by simp)
  | j :: l, vs, h, k, hk => by
    simp only [IsVals] at h
    obtain ⟨v, r, rfl, h1, h2⟩ := h
    cases k with
    | zero => exact ⟨v, rfl, h1⟩
    | succ k =>
      obtain ⟨v', h3, h4⟩ := IsVals.get l r h2 k (by simpa using hk)
      exact ⟨v', by simpa using h3, by simpa using h4⟩

theorem IsVal.iface {w : World} {P : Nat → Prop} {j : JV} {v : Value} (h : IsVal w P j v) : ∃ t x, v = .iface t x := by
  cases j <;> simp only [IsVal] at h
  all_goals first | exact ⟨_, _, h⟩ | (obtain ⟨sl, vs, h, _⟩ := h; exact ⟨_, _, h⟩)

/-- The method jot of a value, as a call through the interface. -/
def ToAt (jv : JV) : Prop :=
  ∀ (P : Nat → Prop) (w : World) (t : TypeId) (x : Value), IsVal w P jv (.iface t x) → ∃ fn, (∀ w', (nilAhead 269 t x "latchkey/jot.jot").run Tryz.prog w' = .ok (some false) w') ∧
    (∀ w', (method 269 t x "latchkey/jot.jot").run Tryz.prog w' = .ok (fn, x) w') ∧
    (∀ args w', (callFunc fn args).run Tryz.prog w' = .ok (.enter fn args) w') ∧ ∀ P' w', IsVal w' P' jv (.iface t x) → Calls Tryz.prog fn #[x] w' (ToPost jv w')

theorem own_keptB {w w' : World} {B : Nat} {e : TypeId} {size : Nat} {v : Value} {n : Nat} {xs : List Value} (h : w.ownsRow B e size v n xs) (hk : KeptB w.heap.size w.heap.size w w') : w'.ownsRow B e size v n xs := by
  refine ⟨h.1, ?_⟩
  rcases h.2 with h2 | ⟨g, cap, cur, hv, hg, hh, r⟩
  · exact Or.inl h2
  · exact Or.inr ⟨g, cap, cur, hv, hg, by rw [hk.block g (Array.getElem?_eq_some_iff.1 hh).1 (by have := (Array.getElem?_eq_some_iff.1 hh).1; omega)]; exact hh, r⟩

theorem cell_alloc (w : World) (o : Obj) {b : Nat} (f : Nat) (hb : b < w.heap.size) : (w.alloc o).cell? ⟨b, f, none⟩ = w.cell? ⟨b, f, none⟩ := by
  simp only [World.cell?, Below.heap_alloc _ _ _ hb]
theorem frozen_alloc (w : World) (o : Obj) {b : Nat} (f : Nat) (hb : b < w.heap.size) : (w.alloc o).frozen? ⟨b, f, none⟩ = w.frozen? ⟨b, f, none⟩ := by
  simp only [World.frozen?, Below.heap_alloc _ _ _ hb]

theorem news5_one (k n : Int) (t : Bs) (an : Option Addr) (ln cn : Nat) (ai : Option Addr) (li ci : Nat) : ∀ u ∈ [.int .i64 k, .int .i64 n, str t, .slice an ln cn, .slice ai li ci], Value.oneCell' u = true := by
  intro u hu
  simp at hu
  rcases hu with rfl | rfl | rfl | rfl | rfl <;> rfl
theorem le_alloc {n : Nat} (w : World) (o : Obj) (h : n ≤ w.heap.size) : n ≤ (w.alloc o).heap.size := by simp; omega

/-- The loop's relation. -/
def ListRel (w : World) (l : List JV) (g : Nat) (iv : Value) (wr : World) : Prop :=
  ∃ (k : Nat) (its : Value) (cs : List Value), g = l.length - k + 1 ∧ iv = .int .i64 (k : Int) ∧ k ≤ l.length ∧ KeptB w.heap.size w.heap.size w wr ∧
      wr.heap[w.heap.size]? = some (.cells #[.int .i64 0, .int .i64 0, .string ⟨#[]⟩, .slice none 0 0, .slice none 0 0] 26 (0, 0)) ∧
      wr.heap[w.heap.size + 1]? = some (.cells #[.int .i64 5, .int .i64 0, .string ⟨#[]⟩, .slice none 0 0, its] 26 (0, 0)) ∧
      wr.ownsRow (w.heap.size + 2) 26 5 its k cs ∧ IsJots wr (fun b => w.heap.size + 2 ≤ b ∧ some b ≠ its.ownBlock) (jotsOf (l.take k)) cs

theorem jotsOf_snoc (v : JV) : ∀ l, jotsOf (l ++ [v]) = jotsOf l ++ [jotOf v]
  | [] => rfl
  | x :: l => by simp [jotsOf, jotsOf_snoc v l]

theorem heap_set_same {w : World} {b o : Nat} {cs : Array Value} {t : TypeId} {fr : Nat × Nat} {u : Value} (h : w.heap[b]? = some (.cells cs t fr)) : (w.setCell ⟨b, o, none⟩ u).heap[b]? = some (.cells (cs.setIfInBounds o u) t fr) := by
  simp only [World.setCell, Array.getElem?_modify, if_true, h]; simp

/-- What stands behind a round: the item's value, appended. -/
structure Grew (ob : Nat) (its : Value) (wr w3 w4 : World) (o : Obj) (v5 : Value) : Prop where
  k3 : KeptB wr.drew.heap.size wr.drew.heap.size wr.drew w3
  g4 : (w3.alloc o).grownBy w4 its.ownBlock

theorem Grew.block {ob : Nat} {its : Value} {wr w3 w4 : World} {o : Obj} {v5 : Value} (h : Grew ob its wr w3 w4 o v5) {b : Nat} (hb : b < wr.heap.size) (hn : some b ≠ its.ownBlock) : w4.heap[b]? = wr.heap[b]? := by
  have h1 : wr.heap.size ≤ w3.heap.size := h.k3.size
  rw [h.g4.block b (by simp; omega) hn, Below.heap_alloc _ _ _ (by omega)]
  exact h.k3.block b hb (by have : wr.drew.heap.size = wr.heap.size := rfl; omega)

theorem ListRel.step {w : World} {l : List JV} {k : Nat} (hk : k < l.length) {wr : World} {its : Value} {cs : List Value} (hK : KeptB w.heap.size w.heap.size w wr)
    (hb0 : wr.heap[w.heap.size]? = some (.cells #[.int .i64 0, .int .i64 0, .string ⟨#[]⟩, .slice none 0 0, .slice none 0 0] 26 (0, 0)))
    (hb1 : wr.heap[w.heap.size + 1]? = some (.cells #[.int .i64 5, .int .i64 0, .string ⟨#[]⟩, .slice none 0 0, its] 26 (0, 0)))
    (hO : wr.ownsRow (w.heap.size + 2) 26 5 its k cs) (hI : IsJots wr (fun b => w.heap.size + 2 ≤ b ∧ some b ≠ its.ownBlock) (jotsOf (l.take k)) cs)
    {w3 w4 : World} {o : Obj} {k1 n1 : Int} {t1 : Bs} {an : Option Addr} {ln cn : Nat} {ai : Option Addr} {li ci : Nat} {gg cap : Nat}
    (hK3 : KeptB wr.drew.heap.size wr.drew.heap.size wr.drew w3)
    (hJ : IsJot w3 (fun k => wr.drew.heap.size ≤ k) (jotOf l[k]) (.agg #[.int .i64 k1, .int .i64 n1, str t1, .slice an ln cn, .slice ai li ci]))
    (hg4 : (w3.alloc o).grownBy w4 its.ownBlock) (hO4 : w4.ownsRow (w.heap.size + 2) 26 5 (.slice (some ⟨gg, 0, none⟩) (k + 1) cap) (k + 1) (cs ++ [.int .i64 k1, .int .i64 n1, str t1, .slice an ln cn, .slice ai li ci]))
    (hat : its.ownBlock = some gg ∨ gg = w3.heap.size + 1) :
    ListRel w l (l.length - k) (.int .i64 ((k : Int) + 1)) (w4.setCell ⟨w.heap.size + 1, 4, none⟩ (.slice (some ⟨gg, 0, none⟩) (k + 1) cap)) := by
  have G : Grew 0 its wr w3 w4 o .nilIface := ⟨hK3, hg4⟩
  have hlt1 : w.heap.size + 1 < wr.heap.size := (Array.getElem?_eq_some_iff.1 hb1).1
  have hOi : ∀ b, b < w.heap.size + 2 → some b ≠ its.ownBlock := fun b hb e => by have := (hO.lt _ e.symm).1; omega
  have h3 : wr.heap.size ≤ w3.heap.size := hK3.size
  have h4 : w3.heap.size + 1 ≤ w4.heap.size := by have := hg4.size; simpa using this
  have hgg : w.heap.size + 2 ≤ gg := (hO4.lt gg rfl).1
  have far : ∀ b, b ≠ w.heap.size + 1 → (w4.setCell ⟨w.heap.size + 1, 4, none⟩ (.slice (some ⟨gg, 0, none⟩) (k + 1) cap)).heap[b]? = w4.heap[b]? := fun b hb => Below.heap_setCell _ _ _ _ (by simpa using hb)
  have hsz : (w4.setCell ⟨w.heap.size + 1, 4, none⟩ (.slice (some ⟨gg, 0, none⟩) (k + 1) cap)).heap.size = w4.heap.size := by simp [World.setCell]
  refine ⟨k + 1, _, _, by omega, by simp, by omega, ?_, ?_, ?_, ownsRow_setCell_below hO4 (by simp) _, ?_⟩
  · refine ⟨?_, ?_, ?_, ?_, fun b hb hn => ?_⟩
    · exact hg4.os.trans (hK3.os.trans hK.os)
    · exact hg4.tape.trans (hK3.tape.trans hK.tape)
    · exact hg4.output.trans (hK3.output.trans hK.output)
    · have := hK.size; omega
    · rw [far b (by omega), G.block (by omega) (hOi b (by omega))]; exact hK.block b hb hn
  · rw [far _ (by omega), G.block (by omega) (hOi _ (by omega)), hb0]
  · rw [heap_set_same ((G.block hlt1 (hOi _ (by omega))).trans hb1)]; rfl
  · rw [List.take_succ_eq_append_getElem hk, jotsOf_snoc]
    have mv : ∀ b, w.heap.size + 2 ≤ b → b < w3.heap.size → some b ≠ its.ownBlock → (w4.setCell ⟨w.heap.size + 1, 4, none⟩ (.slice (some ⟨gg, 0, none⟩) (k + 1) cap)).heap[b]? = w3.heap[b]? := fun b hb hlt hne => by
      rw [far b (by omega), hg4.block b (by simp; omega) hne, Below.heap_alloc _ _ _ hlt]
    have loc : ∀ b, b < w3.heap.size → some b ≠ its.ownBlock → some b ≠ (Value.slice (some ⟨gg, 0, none⟩) (k + 1) cap).ownBlock := fun b hlt hne e => by
      simp [Value.ownBlock] at e
      rcases hat with h | h
      · exact hne (by rw [h, e])
      · omega
    refine IsJots.snoc _ _ ?_ ?_
    · refine IsJots.move (fun b hb hlt => ?_) _ _ hI.bound
      obtain ⟨⟨q1, q2⟩, q3⟩ := hb
      exact ⟨(mv b q1 (by omega) q2).trans (hK3.block b q3 (by have : wr.drew.heap.size = wr.heap.size := rfl; omega)), q1, loc b (by omega) q2⟩
    · refine IsJot.move (fun b hb hlt => ?_) _ _ hJ.bound
      obtain ⟨q1, q3⟩ := hb
      have q1' : wr.heap.size ≤ b := q1
      have hne : some b ≠ its.ownBlock := fun e => by have := (hO.lt _ e.symm).2; omega
      exact ⟨mv b (by omega) hlt hne, by omega, loc b hlt hne⟩

/-- A value of five cells, stored. -/
abbrev setFive (w : World) (b : Nat) (u0 u1 u2 u3 u4 : Value) : World :=
  ((((w.setCell ⟨b, 0, none⟩ u0).setCell ⟨b, 1, none⟩ u1).setCell ⟨b, 2, none⟩ u2).setCell ⟨b, 3, none⟩ u3).setCell ⟨b, 4, none⟩ u4
theorem heap_set_far (w : World) (b o : Nat) (u : Value) {c : Nat} (h : c ≠ b) : (w.setCell ⟨b, o, none⟩ u).heap[c]? = w.heap[c]? := Below.heap_setCell _ _ _ _ (by simpa using h)
theorem setFive_far {w : World} {b : Nat} (u0 u1 u2 u3 u4 : Value) (c : Nat) (_ : True) (h : c ≠ b) : (setFive w b u0 u1 u2 u3 u4).heap[c]? = w.heap[c]? :=
  (heap_set_far _ b 4 u4 h).trans ((heap_set_far _ b 3 u3 h).trans ((heap_set_far _ b 2 u2 h).trans ((heap_set_far _ b 1 u1 h).trans (heap_set_far w b 0 u0 h))))
theorem size_set (w : World) (a : Addr) (u : Value) : (w.setCell a u).heap.size = w.heap.size := by simp [World.setCell]
theorem setFive_size (w : World) (b : Nat) (u0 u1 u2 u3 u4 : Value) : (setFive w b u0 u1 u2 u3 u4).heap.size = w.heap.size :=
  (size_set _ _ _).trans ((size_set _ _ _).trans ((size_set _ _ _).trans ((size_set _ _ _).trans (size_set _ _ _))))
theorem KeptB.setGe {w0 w : World} {B b : Nat} (hk : KeptB B B w0 w) (h : B ≤ b) (o : Nat) (u : Value) : KeptB B B w0 (w.setCell ⟨b, o, none⟩ u) :=
  ⟨hk.os, hk.tape, hk.output, by rw [size_set]; exact hk.size, fun k hk1 hn => (heap_set_far w b o u (by omega)).trans (hk.block k hk1 hn)⟩
theorem setFive_kept {w0 w : World} {B b : Nat} (hk : KeptB B B w0 w) (h : B ≤ b) (u0 u1 u2 u3 u4 : Value) : KeptB B B w0 (setFive w b u0 u1 u2 u3 u4) :=
  ((((hk.setGe h 0 u0).setGe h 1 u1).setGe h 2 u2).setGe h 3 u3).setGe h 4 u4
theorem Row.nil (w : World) (P : Nat → Prop) (e : TypeId) (size : Nat) : Row w P e size (.slice none 0 0) 0 [] :=
  ⟨World.ownsRow_nil _ _ _ _, fun g hg => by simp [Value.ownBlock] at hg⟩

set_option maxRecDepth 100000 in
set_option maxHeartbeats 2000000 in
theorem list_jot (P : Nat → Prop) (l : List JV) (sl : Value) (vs : List Value) (w : World) (hl : l.length ≤ 4000) (hr : Row w P 44 1 sl l.length vs) (hv : IsVals w P l vs) (ht : ∀ jv ∈ l, ToAt jv) :
    Calls Tryz.prog 130 #[sl] w (ToPost (.list l) w) := by
  have HT := Lib.hid ht
  have HR := Lib.hid hr
  have HV := Lib.hid hv
  clear ht hr hv
  obtain ⟨a, c, rfl⟩ : ∃ a c, sl = .slice a l.length c := by
    rcases HR.out.1.2 with ⟨h, h0⟩ | ⟨g, cap, cur, h, _⟩
    · exact ⟨none, 0, by rw [h, h0]⟩
    · exact ⟨_, _, h⟩
  obtain ⟨i0, hi0, hz0, hz1, hz2⟩ := info_parts infoJot
  have H0 := Lib.hid hi0
  clear hi0
  go_enter Tryz.func130, Tryz.ntmps130
  go_wp2_with fail
  go_loopg [9] (l.length + 1) (fun g iv wr => ListRel w l g iv wr)
  case atStart =>
    refine ⟨0, .slice none 0 0, [], by simp, rfl, Nat.zero_le _, ?_, ?_, ?_, World.ownsRow_nil _ _ _ _, by simp [jotsOf, IsJots]⟩
    · repeat (first | exact KeptB.refl _ _ _ | refine KeptB.drew ?_ | refine KeptB.alloc ?_ (by simp) _)
    · exact (Below.heap_alloc _ _ _ (by simp)).trans (heap_alloc_new _ _)
    · rw [show w.heap.size + 1 = (w.alloc (.cells #[.int .i64 0, .int .i64 0, .string ⟨#[]⟩, .slice none 0 0, .slice none 0 0] 26 (0, 0))).heap.size by simp]
      exact heap_alloc_new _ _
  case round =>
    obtain ⟨k, its, cs, hg, rfl, hkl, hK, hb0, hb1, hO, hI⟩ := hrel
    have HG := Lib.hid hg
    have HOW := Lib.hid hO
    have HI := Lib.hid hI
    have HK := Lib.hid hK
    clear hg hO hI hK
    by_cases hk : k < l.length
    · obtain ⟨v, hv1, hv2⟩ := HV.out.get l vs k hk
      obtain ⟨t, x, rfl⟩ := hv2.iface
      obtain ⟨g, cap, hgs, _, hglt⟩ := HR.out.1.form (by omega)
      obtain ⟨rfl, rfl⟩ : a = some ⟨g, 0, none⟩ ∧ c = cap := by cases hgs; exact ⟨rfl, rfl⟩
      have hcell : wr.cell? ⟨g, k, none⟩ = some (.iface t x) := by
        have h1 := HR.out.1.cellAt k (by omega)
        rw [hv1] at h1
        rw [← h1]
        simp only [World.cell?, HK.out.block g hglt (by omega)]
      obtain ⟨fn, hn, hm, hcf, hc⟩ := HT.out _ (List.getElem_mem hk) P w t x hv2
      have hvr : IsVal wr.drew (fun b => P b ∧ b < w.heap.size) l[k] (.iface t x) := IsVal.move (w' := wr.drew) (fun b hb hlt => ⟨HK.out.block b hb.2 (by omega), hb⟩) _ _ hv2.bound
      have HC := Lib.hid hc
      have HVR := Lib.hid hvr
      have hc4 : wr.cell? ⟨w.heap.size + 1, 4, none⟩ = some its := by simp [World.cell?, hb1]
      have hf4 : wr.frozen? ⟨w.heap.size + 1, 4, none⟩ = false := by simp [World.frozen?, hb1]
      have HB0 := Lib.hid hb0
      have HB1 := Lib.hid hb1
      have hlt1 : w.heap.size + 1 < wr.heap.size := (Array.getElem?_eq_some_iff.1 hb1).1
      clear hv1 hv2 hc hvr hb0 hb1 hgs
      have hOi : its.ownBlock ≠ some (w.heap.size + 1) := fun e => by have := (HOW.out.lt _ e).1; omega
      have hOi' := Ne.symm hOi
      have h63 : k + 1 ≤ maxLen := by unfold maxLen; omega
      have hb80 : (k + 1) * 80 ≤ 140737488355328 := by omega
      go_upto_region 5 with fail
      go_region_law
        (first
          | (refine step_append_lies _ (by rfl) _ _ _ (by rfl) (w.heap.size + 2) 26 i0 _ 5 80 Tryz.underlying24 H0.out hz0 hz1 hz2 rfl (by omega) its k cs (by rfl) ((HO3.out.alloc _)) ⟨w3.heap.size, 0, none⟩ 1 1 [.int .i64 k1, .int .i64 n1, str t1, .slice an ln cn, .slice ai li ci] (by rfl) (by rfl) (World.news_of_block (cs := #[.int .i64 k1, .int .i64 n1, str t1, .slice an ln cn, .slice ai li ci]) (t := 26) (fr := (0, 0)) (heap_alloc_new w3 _)) (news5_one _ _ _ _ _ _ _ _ _) Nat.one_pos h63 hb80 (q5 _) (w3.heap.size + 1) (by simp) ?_; (intro gg cap w4 hown1 hgrow hat hlt; have c1 := (hgrow.cell_far ⟨w.heap.size + 1, 4, none⟩ (q8 _) hOi').trans (q6 _); have f1 := (hgrow.frozen_far ⟨w.heap.size + 1, 4, none⟩ (q8 _) hOi').trans (q7 _); have HOW4 := Lib.hid hown1; have HG4 := Lib.hid hgrow; have HAT := Lib.hid hat; clear hown1 hgrow hat))
          | (go_simp; refine (HC.out (fun b => P b ∧ b < w.heap.size) _ ?_).mono ?_; (exact HVR.out); rintro e w3 ⟨k1, n1, t1, an, ln, cn, ai, li, ci, rfl, K3, hJ⟩; have q1 := (K3.cell (o := 4) (show w.heap.size + 1 < wr.drew.heap.size from hlt1)).trans hc4; have q2 := (K3.frozen (o := 4) (show w.heap.size + 1 < wr.drew.heap.size from hlt1)).trans hf4; have HO3 := Lib.hid (own_keptB HOW.out.drew K3); have HJ := Lib.hid hJ; have HK3 := Lib.hid K3; have hw3 : wr.heap.size ≤ w3.heap.size := K3.size; have q3 := fun o => cell_alloc w3 o 4 (show w.heap.size + 1 < w3.heap.size by omega); have q4 := fun o => frozen_alloc w3 o 4 (show w.heap.size + 1 < w3.heap.size by omega); have q6 : ∀ o, (w3.alloc o).cell? ⟨w.heap.size + 1, 4, none⟩ = some its := fun o => (q3 o).trans q1; have q7 : ∀ o, (w3.alloc o).frozen? ⟨w.heap.size + 1, 4, none⟩ = false := fun o => (q4 o).trans q2; clear q3 q4; have q8 : ∀ o, w.heap.size + 1 < (w3.alloc o).heap.size := fun o => le_alloc w3 o (show w.heap.size + 2 ≤ w3.heap.size by omega); have q5 := fun o => le_alloc w3 o (show w.heap.size + 2 ≤ w3.heap.size by omega); clear hJ K3))
      all_goals
        go_wp2_with fail
        go_roundg (l.length - k)
        case measure => have := HG.out; omega
        case rel => exact ListRel.step hk HK.out HB0.out HB1.out HOW.out HI.out HK3.out HJ.out HG4.out HOW4.out HAT.out
    · obtain rfl : k = l.length := by omega
      have d0 : wr.cell? ⟨w.heap.size + 1, 0, none⟩ = some (.int .i64 5) := by simp [World.cell?, hb1]
      have e0 : wr.cell? ⟨w.heap.size, 0, none⟩ = some (.int .i64 0) := by simp [World.cell?, hb0]
      have f0 : wr.frozen? ⟨w.heap.size, 0, none⟩ = false := by simp [World.frozen?, hb0]
      have d1 : wr.cell? ⟨w.heap.size + 1, 1, none⟩ = some (.int .i64 0) := by simp [World.cell?, hb1]
      have e1 : wr.cell? ⟨w.heap.size, 1, none⟩ = some (.int .i64 0) := by simp [World.cell?, hb0]
      have f1 : wr.frozen? ⟨w.heap.size, 1, none⟩ = false := by simp [World.frozen?, hb0]
      have d2 : wr.cell? ⟨w.heap.size + 1, 2, none⟩ = some (.string ⟨#[]⟩) := by simp [World.cell?, hb1]
      have e2 : wr.cell? ⟨w.heap.size, 2, none⟩ = some (.string ⟨#[]⟩) := by simp [World.cell?, hb0]
      have f2 : wr.frozen? ⟨w.heap.size, 2, none⟩ = false := by simp [World.frozen?, hb0]
      have d3 : wr.cell? ⟨w.heap.size + 1, 3, none⟩ = some (.slice none 0 0) := by simp [World.cell?, hb1]
      have e3 : wr.cell? ⟨w.heap.size, 3, none⟩ = some (.slice none 0 0) := by simp [World.cell?, hb0]
      have f3 : wr.frozen? ⟨w.heap.size, 3, none⟩ = false := by simp [World.frozen?, hb0]
      have d4 : wr.cell? ⟨w.heap.size + 1, 4, none⟩ = some its := by simp [World.cell?, hb1]
      have e4 : wr.cell? ⟨w.heap.size, 4, none⟩ = some (.slice none 0 0) := by simp [World.cell?, hb0]
      have f4 : wr.frozen? ⟨w.heap.size, 4, none⟩ = false := by simp [World.frozen?, hb0]
      have HB0 := Lib.hid hb0
      have HB1 := Lib.hid hb1
      clear hb0 hb1
      obtain ⟨ag, ac, rfl⟩ : ∃ ag ac, its = .slice ag l.length ac := by
        rcases HOW.out.2 with ⟨h, h0⟩ | ⟨g, cap, cur, h, _⟩
        · exact ⟨none, 0, by rw [h, h0]⟩
        · exact ⟨_, _, h⟩
      go_wp2_with fail
      refine bodyPost_ret (by simp [results, Tryz.results130, go_sem, e0, e1, e2, e3, e4]; try rfl) rfl ?_
      have sets : ∀ b, w.heap.size + 2 ≤ b → (setFive wr w.heap.size (.int .i64 5) (.int .i64 0) (.string ⟨#[]⟩) (.slice none 0 0) (.slice ag l.length ac)).heap[b]? = wr.heap[b]? := fun b hb => setFive_far _ _ _ _ _ _ trivial (by omega)
      refine ⟨5, 0, [], none, 0, 0, ag, l.length, ac, rfl, setFive_kept HK.out (Nat.le_refl _) _ _ _ _ _, ?_⟩
      refine ⟨none, 0, ag, ac, cs, by rw [jotsOf_length]; rfl, Row.nil _ _ _ _, ?_, ?_⟩
      · rw [jotsOf_length]
        exact (Row.of_own HOW.out).move (fun b hb hlt => ⟨sets b hb, Nat.le_trans (by omega) hb⟩)
      · have := HI.out
        rw [List.take_length] at this
        exact IsJots.move (fun b hb hlt => ⟨sets b hb.1, Nat.le_trans (by omega) hb.1⟩) _ _ this

end Jot
end Go.Proofs.YthgcnmdnjfajbaaGreatDoor
