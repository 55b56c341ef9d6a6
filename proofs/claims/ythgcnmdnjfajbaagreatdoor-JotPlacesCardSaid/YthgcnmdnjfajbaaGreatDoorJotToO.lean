/- Walk of package jot: what an object says to callers. Conditions: what its parts say. -/
import Derived.Test.YthgcnmdnjfajbaaGreatDoorJotToL
namespace Go.Proofs.YthgcnmdnjfajbaaGreatDoor
open Go.RowKit
namespace Jot

theorem infoStr : (Tryz.prog.info? 9).map (fun i => (i.zero, i.size, i.bytes)) = some (some (.string ⟨#[]⟩), 1, 16) := by kernel_rfl

theorem IsMems.get {w : World} {P : Nat → Prop} : ∀ (l : List (Bs × JV)) (vs : List Value), IsMems w P l vs → ∀ k (hk : k < l.length), ∃ v, vs[k * 2]? = some (str l[k].1) ∧ vs[k * 2 + 1]? = some v ∧ IsVal w P l[k].2 v
  | [], _, _, k, hk => absurd hk (by simp)
  | (n, j) :: l, vs, h, k, hk => by
    simp only [IsMems] at h
    obtain ⟨v, r, rfl, h1, h2⟩ := h
    cases k with
    | zero => exact ⟨v, rfl, rfl, h1⟩
    | succ k =>
      obtain ⟨v', h3, h4, h5⟩ := IsMems.get l r h2 k (by simpa using hk)
      refine ⟨v', ?_, ?_, by simpa using h5⟩
      · rw [show (k + 1) * 2 = k * 2 + 1 + 1 by omega]; simpa using h3
      · rw [show (k + 1) * 2 + 1 = k * 2 + 1 + 1 + 1 by omega]; simpa using h4

theorem memsOf_snoc (n : Bs) (v : JV) : ∀ l, memsOf (l ++ [(n, v)]) = memsOf l ++ [jotOf v]
  | [] => rfl
  | (_, x) :: l => by simp [memsOf, memsOf_snoc n v l]

/-- What the loop has laid down: so many names, so many items. -/
structure ObjR (w : World) (m : List (Bs × JV)) (kn k : Nat) (ns its : Value) (cs : List Value) (wr : World) : Prop where
  kept : KeptB w.heap.size w.heap.size w wr
  b0 : wr.heap[w.heap.size]? = some (.cells #[.int .i64 0, .int .i64 0, .string ⟨#[]⟩, .slice none 0 0, .slice none 0 0] 26 (0, 0))
  b1 : wr.heap[w.heap.size + 1]? = some (.cells #[.int .i64 6, .int .i64 0, .string ⟨#[]⟩, ns, its] 26 (0, 0))
  names : wr.ownsRow (w.heap.size + 2) 9 1 ns kn ((m.take kn).map fun x => str x.1)
  items : wr.ownsRow (w.heap.size + 2) 26 5 its k cs
  apart : ∀ b, ns.ownBlock = some b → its.ownBlock ≠ some b
  jots : IsJots wr (fun b => w.heap.size + 2 ≤ b ∧ some b ≠ its.ownBlock ∧ some b ≠ ns.ownBlock) (memsOf (m.take k)) cs

theorem ObjR.drew {w : World} {m : List (Bs × JV)} {kn k : Nat} {ns its : Value} {cs : List Value} {wr : World} (h : ObjR w m kn k ns its cs wr) : ObjR w m kn k ns its cs wr.drew :=
  ⟨h.kept.drew, h.b0, h.b1, h.names.drew, h.items.drew, h.apart, IsJots.move (w := wr) (w' := wr.drew) (fun _ hb _ => ⟨rfl, hb⟩) _ _ h.jots⟩

theorem heap_alloc_at (w : World) (o : Obj) {b : Nat} (h : w.heap.size = b) : (w.alloc o).heap[b]? = some o := h ▸ heap_alloc_new w o

theorem own_same {w w' : World} {B : Nat} {e : TypeId} {size : Nat} {v : Value} {n : Nat} {xs : List Value} (h : w.ownsRow B e size v n xs) (hk : ∀ b, v.ownBlock = some b → w'.heap[b]? = w.heap[b]?) : w'.ownsRow B e size v n xs := by
  refine ⟨h.1, ?_⟩
  rcases h.2 with h2 | ⟨g, cap, cur, rfl, hg, hh, r⟩
  · exact Or.inl h2
  · exact Or.inr ⟨g, cap, cur, rfl, hg, by rw [hk g rfl]; exact hh, r⟩

theorem kept_names {w wr : World} {ns : Value} {w5 : World} {v' : Value}
    (hK : KeptB w.heap.size w.heap.size w wr) (hns : ∀ b, ns.ownBlock = some b → w.heap.size + 2 ≤ b) (hsz : w.heap.size + 2 ≤ wr.heap.size) {o1 o2 : Obj} (hg : ((wr.alloc o1).alloc o2).grownBy w5 ns.ownBlock) :
    KeptB w.heap.size w.heap.size w (w5.setCell ⟨w.heap.size + 1, 3, none⟩ v') := by
  refine KeptB.setGe ?_ (by omega) _ _
  refine hK.trans ⟨hg.os, hg.tape, hg.output, by have := hg.size; simp at this; omega, fun b hb hn => ?_⟩
  rw [hg.block b (by simp; omega) (fun e => by have := hns b e.symm; omega), Below.heap_alloc _ _ _ (by simp; omega), Below.heap_alloc _ _ _ (by omega)]

/-- A name more. -/
theorem ObjR.name {w : World} {m : List (Bs × JV)} {k : Nat} (hk : k < m.length) {ns its : Value} {cs : List Value} {wr : World} (h : ObjR w m k k ns its cs wr)
    {o1 o2 : Obj} {w5 : World} {v' : Value} (hg : ((wr.alloc o1).alloc o2).grownBy w5 ns.ownBlock) (hO : w5.ownsRow (w.heap.size + 2) 9 1 v' (k + 1) (((m.take k).map fun x => str x.1) ++ [str m[k].1]))
    (hat : v'.ownBlock = ns.ownBlock ∨ v'.ownBlock = some (wr.heap.size + 2)) :
    ObjR w m (k + 1) k v' its cs (w5.setCell ⟨w.heap.size + 1, 3, none⟩ v') := by
  have hlt1 : w.heap.size + 1 < wr.heap.size := (Array.getElem?_eq_some_iff.1 h.b1).1
  have hns : ∀ b, ns.ownBlock = some b → w.heap.size + 2 ≤ b ∧ b < wr.heap.size := fun b hb => h.names.lt b hb
  have hit : ∀ b, its.ownBlock = some b → w.heap.size + 2 ≤ b ∧ b < wr.heap.size := fun b hb => h.items.lt b hb
  have same : ∀ b, b < wr.heap.size → some b ≠ ns.ownBlock → w5.heap[b]? = wr.heap[b]? := fun b hb hn => by
    rw [hg.block b (by simp; omega) hn, Below.heap_alloc _ _ _ (by simp; omega), Below.heap_alloc _ _ _ (by omega)]
  have same' : ∀ b, b < wr.heap.size → b ≠ w.heap.size + 1 → some b ≠ ns.ownBlock → (w5.setCell ⟨w.heap.size + 1, 3, none⟩ v').heap[b]? = wr.heap[b]? := fun b hb h1 hn => by
    rw [heap_set_far _ _ _ _ h1]; exact same b hb hn
  have old : ∀ b, b < w.heap.size + 2 → some b ≠ ns.ownBlock := fun b hb e => by have := (hns b e.symm).1; omega
  refine ⟨kept_names h.kept (fun b hb => (hns b hb).1) (by omega) hg, ?_, ?_, ?_, ?_, ?_, ?_⟩
  · rw [same' _ (by omega) (by omega) (old _ (by omega)), h.b0]
  · rw [heap_set_same ((same _ hlt1 (old _ (by omega))).trans h.b1)]; rfl
  · rw [List.take_succ_eq_append_getElem hk, List.map_append]
    exact ownsRow_setCell_below hO (by simp) _
  · exact own_same h.items fun b hb => same' b (hit b hb).2 (by have := (hit b hb).1; omega) (fun e => h.apart b e.symm hb)
  · intro b hb e
    rcases hat with h2 | h2
    · exact h.apart b (by rw [← h2, hb]) e
    · rw [h2] at hb; cases hb; have := (hit _ e).2; omega
  · refine IsJots.move (fun b hb hlt => ?_) _ _ h.jots.bound
    obtain ⟨⟨q1, q2, q3⟩, q4⟩ := hb
    refine ⟨same' b q4 (by omega) q3, q1, q2, fun e => ?_⟩
    rcases hat with h2 | h2
    · exact q3 (by rw [← h2, e])
    · rw [h2] at e; cases e; omega

/-- An item more. -/
theorem ObjR.item {w : World} {m : List (Bs × JV)} {k : Nat} (hk : k < m.length) {ns its : Value} {cs : List Value} {wr : World} (h : ObjR w m (k + 1) k ns its cs wr)
    {w3 w4 : World} {o : Obj} {k1 n1 : Int} {t1 : Bs} {an : Option Addr} {ln cn : Nat} {ai : Option Addr} {li ci : Nat} {gg cap : Nat}
    (hK3 : KeptB wr.drew.heap.size wr.drew.heap.size wr.drew w3)
    (hJ : IsJot w3 (fun k => wr.drew.heap.size ≤ k) (jotOf m[k].2) (.agg #[.int .i64 k1, .int .i64 n1, str t1, .slice an ln cn, .slice ai li ci]))
    (hg4 : (w3.alloc o).grownBy w4 its.ownBlock) (hO4 : w4.ownsRow (w.heap.size + 2) 26 5 (.slice (some ⟨gg, 0, none⟩) (k + 1) cap) (k + 1) (cs ++ [.int .i64 k1, .int .i64 n1, str t1, .slice an ln cn, .slice ai li ci]))
    (hat : its.ownBlock = some gg ∨ gg = w3.heap.size + 1) :
    ObjR w m (k + 1) (k + 1) ns (.slice (some ⟨gg, 0, none⟩) (k + 1) cap) (cs ++ [.int .i64 k1, .int .i64 n1, str t1, .slice an ln cn, .slice ai li ci]) (w4.setCell ⟨w.heap.size + 1, 4, none⟩ (.slice (some ⟨gg, 0, none⟩) (k + 1) cap)) := by
  have G : Grew 0 its wr w3 w4 o .nilIface := ⟨hK3, hg4⟩
  have hlt1 : w.heap.size + 1 < wr.heap.size := (Array.getElem?_eq_some_iff.1 h.b1).1
  have hOi : ∀ b, b < w.heap.size + 2 → some b ≠ its.ownBlock := fun b hb e => by have := (h.items.lt _ e.symm).1; omega
  have h3 : wr.heap.size ≤ w3.heap.size := hK3.size
  have h4 : w3.heap.size + 1 ≤ w4.heap.size := by have := hg4.size; simpa using this
  have hgg : w.heap.size + 2 ≤ gg := (hO4.lt gg rfl).1
  have hns : ∀ b, ns.ownBlock = some b → w.heap.size + 2 ≤ b ∧ b < wr.heap.size := fun b hb => h.names.lt b hb
  have far : ∀ b, b ≠ w.heap.size + 1 → (w4.setCell ⟨w.heap.size + 1, 4, none⟩ (.slice (some ⟨gg, 0, none⟩) (k + 1) cap)).heap[b]? = w4.heap[b]? := fun b hb => heap_set_far _ _ _ _ hb
  have ngg : ∀ b, ns.ownBlock = some b → b ≠ gg := fun b hb e => by
    rcases hat with h2 | h2
    · exact h.apart b hb (by rw [h2, e])
    · have := (hns b hb).2; omega
  refine ⟨KeptB.setGe ?_ (by omega) _ _, ?_, ?_, ?_, ownsRow_setCell_below hO4 (by simp) _, fun b hb e => ngg b hb (by simp [Value.ownBlock] at e; exact e.symm), ?_⟩
  · refine h.kept.trans ⟨hg4.os.trans hK3.os, hg4.tape.trans hK3.tape, hg4.output.trans hK3.output, by omega, fun b hb hn => ?_⟩
    exact G.block (by omega) (hOi b (by omega))
  · rw [far _ (by omega), G.block (by omega) (hOi _ (by omega)), h.b0]
  · rw [heap_set_same ((G.block hlt1 (hOi _ (by omega))).trans h.b1)]; rfl
  · exact own_same h.names fun b hb => by
      rw [far b (by have := (hns b hb).1; omega)]
      exact G.block (hns b hb).2 (fun e => h.apart b hb e.symm)
  · rw [List.take_succ_eq_append_getElem hk, show m[k] = (m[k].1, m[k].2) from rfl, memsOf_snoc]
    have mv : ∀ b, w.heap.size + 2 ≤ b → b < w3.heap.size → some b ≠ its.ownBlock → (w4.setCell ⟨w.heap.size + 1, 4, none⟩ (.slice (some ⟨gg, 0, none⟩) (k + 1) cap)).heap[b]? = w3.heap[b]? := fun b hb hlt hne => by
      rw [far b (by omega), hg4.block b (by simp; omega) hne, Below.heap_alloc _ _ _ hlt]
    have loc : ∀ b, b < w3.heap.size → some b ≠ its.ownBlock → some b ≠ (Value.slice (some ⟨gg, 0, none⟩) (k + 1) cap).ownBlock := fun b hlt hne e => by
      simp [Value.ownBlock] at e
      rcases hat with h | h
      · exact hne (by rw [h, e])
      · omega
    refine IsJots.snoc _ _ ?_ ?_
    · refine IsJots.move (fun b hb hlt => ?_) _ _ h.jots.bound
      obtain ⟨⟨q1, q2, q2'⟩, q3⟩ := hb
      exact ⟨(mv b q1 (by omega) q2).trans (hK3.block b q3 (by have : wr.drew.heap.size = wr.heap.size := rfl; omega)), q1, loc b (by omega) q2, q2'⟩
    · refine IsJot.move (fun b hb hlt => ?_) _ _ hJ.bound
      obtain ⟨q1, q3⟩ := hb
      have q1' : wr.heap.size ≤ b := q1
      have hne : some b ≠ its.ownBlock := fun e => by have := (h.items.lt _ e.symm).2; omega
      exact ⟨mv b (by omega) hlt hne, by omega, loc b hlt hne, fun e => by have := (hns b e.symm).2; omega⟩

/-- The loop's relation. -/
def ObjRel (w : World) (m : List (Bs × JV)) (g : Nat) (iv : Value) (wr : World) : Prop :=
  ∃ (k : Nat) (ns its : Value) (cs : List Value), g = m.length - k + 1 ∧ iv = .int .i64 (k : Int) ∧ k ≤ m.length ∧ ObjR w m k k ns its cs wr

set_option maxRecDepth 100000 in
set_option maxHeartbeats 2000000 in
theorem object_jot (P : Nat → Prop) (m : List (Bs × JV)) (sl : Value) (vs : List Value) (w : World) (hl : m.length ≤ 4000) (hr : Row w P 81 2 sl m.length vs) (hv : IsMems w P m vs) (ht : ∀ x ∈ m, ToAt x.2) :
    Calls Tryz.prog 131 #[sl] w (ToPost (.obj m) w) := by
  have HT := Lib.hid ht
  have HR := Lib.hid hr
  have HV := Lib.hid hv
  clear ht hr hv
  obtain ⟨a, c, rfl⟩ : ∃ a c, sl = .slice a m.length c := by
    rcases HR.out.1.2 with ⟨h, h0⟩ | ⟨g, cap, cur, h, _⟩
    · exact ⟨none, 0, by rw [h, h0]⟩
    · exact ⟨_, _, h⟩
  obtain ⟨i0, hi0, hz0, hz1, hz2⟩ := info_parts infoJot
  have H0 := Lib.hid hi0
  obtain ⟨i1, hi1, hy0, hy1, hy2⟩ := info_parts infoStr
  have H1 := Lib.hid hi1
  clear hi0 hi1
  go_enter Tryz.func131, Tryz.ntmps131
  go_wp2_with fail
  go_loopg [9] (m.length + 1) (fun g iv wr => ObjRel w m g iv wr)
  case atStart =>
    refine ⟨0, .slice none 0 0, .slice none 0 0, [], by simp, rfl, Nat.zero_le _, ?_, ?_, ?_, World.ownsRow_nil _ _ _ _, World.ownsRow_nil _ _ _ _, fun b hb => by simp [Value.ownBlock] at hb, by simp [memsOf, IsJots]⟩
    · repeat (first | exact KeptB.refl _ _ _ | refine KeptB.drew ?_ | refine KeptB.alloc ?_ (by simp) _)
    · exact (Below.heap_alloc _ _ _ (by simp)).trans (heap_alloc_new _ _)
    · rw [show w.heap.size + 1 = (w.alloc (.cells #[.int .i64 0, .int .i64 0, .string ⟨#[]⟩, .slice none 0 0, .slice none 0 0] 26 (0, 0))).heap.size by simp]
      exact heap_alloc_new _ _
  case round =>
    obtain ⟨k, ns, its, cs, hg, rfl, hkl, hR⟩ := hrel
    have HG := Lib.hid hg
    have HRR := Lib.hid hR
    have hb0 := hR.b0
    have hb1 := hR.b1
    clear hg hR
    by_cases hk : k < m.length
    · obtain ⟨v, hv0, hv1, hv2⟩ := HV.out.get m vs k hk
      obtain ⟨t, x, rfl⟩ := hv2.iface
      obtain ⟨g, cap, hgs, _, hglt⟩ := HR.out.1.form (by omega)
      obtain ⟨rfl, rfl⟩ : a = some ⟨g, 0, none⟩ ∧ c = cap := by cases hgs; exact ⟨rfl, rfl⟩
      have hcella : wr.cell? ⟨g, k * 2, none⟩ = some (.string ⟨m[k].1.toArray⟩) := by
        have h1 := HR.out.1.cellAt (k * 2) (by omega)
        rw [hv0] at h1
        refine Eq.trans ?_ h1
        simp only [World.cell?, HRR.out.kept.block g hglt (by omega)]
      have hcellb : wr.cell? ⟨g, k * 2 + 1, none⟩ = some (.iface t x) := by
        have h1 := HR.out.1.cellAt (k * 2 + 1) (by omega)
        rw [hv1] at h1
        refine Eq.trans ?_ h1
        simp only [World.cell?, HRR.out.kept.block g hglt (by omega)]
      obtain ⟨fn, hn, hm, hcf, hc⟩ := HT.out _ (List.getElem_mem hk) P w t x hv2
      have HC := Lib.hid hc
      have HV2 := Lib.hid hv2
      have hc3 : wr.cell? ⟨w.heap.size + 1, 3, none⟩ = some ns := by simp [World.cell?, hb1]
      have hf3 : wr.frozen? ⟨w.heap.size + 1, 3, none⟩ = false := by simp [World.frozen?, hb1]
      have hc4 : wr.cell? ⟨w.heap.size + 1, 4, none⟩ = some its := by simp [World.cell?, hb1]
      have hf4 : wr.frozen? ⟨w.heap.size + 1, 4, none⟩ = false := by simp [World.frozen?, hb1]
      have hlt1 : w.heap.size + 1 < wr.heap.size := (Array.getElem?_eq_some_iff.1 hb1).1
      clear hv0 hv1 hv2 hc hb0 hb1 hgs
      have h63 : k + 1 ≤ maxLen := by unfold maxLen; omega
      have hb80 : (k + 1) * 80 ≤ 140737488355328 := by omega
      go_wp2_with (at_builtin; refine wpList_append_lies _ rfl _ _ 23 rfl (w.heap.size + 2) 9 i1 (.string ⟨#[]⟩) 1 16 Tryz.underlying23 H1.out hy0 hy1 hy2 rfl (by decide) _ _ _ rfl ((HRR.out.names.alloc _).alloc _) ⟨wr.heap.size + 1, 0, none⟩ 1 1 [.string ⟨m[k].1.toArray⟩] rfl rfl ?c1 ?c2 Nat.one_pos ?c3 ?c4 ?c5 (wr.heap.size + 2) (by simp) ?_)
      case c1 => exact World.news_of_block (cs := #[.string ⟨m[k].1.toArray⟩]) (t := 9) (fr := (0, 0)) (heap_alloc_at _ _ (by simp))
      case c2 => intro u hu; simp at hu; subst hu; rfl
      case c3 => exact h63
      case c4 => omega
      case c5 => simp; omega
      intro g' cap' w5 hown' hgrow hloc _
      have hmid := ObjR.name (v' := .slice (some ⟨g', 0, none⟩) (k + 1) cap') hk HRR.out hgrow (by rw [List.map_take]; exact hown') (hloc.elim (fun h => .inl h.symm) (fun h => .inr (by rw [h]; rfl)))
      have hOi : its.ownBlock ≠ some (w.heap.size + 1) := fun e => by have := (HRR.out.items.lt _ e).1; omega
      have hOi' := Ne.symm hOi
      have hOn : some (w.heap.size + 1) ≠ ns.ownBlock := fun e => by have := (HRR.out.names.lt _ e.symm).1; omega
      have hOm : some wr.heap.size ≠ ns.ownBlock := fun e => by have := (HRR.out.names.lt _ e.symm).2; omega
      have same : w5.heap[w.heap.size + 1]? = wr.heap[w.heap.size + 1]? := by
        rw [hgrow.block _ (by simp; omega) hOn, Below.heap_alloc _ _ _ (by simp; omega), Below.heap_alloc _ _ _ (by omega)]
      have samem : w5.heap[wr.heap.size]? = some (.cells #[.string ⟨m[k].1.toArray⟩, .iface t x] 81 (0, 0)) := by
        rw [hgrow.block _ (by simp; omega) hOm, Below.heap_alloc _ _ _ (by simp)]
        exact heap_alloc_new _ _
      have a3 : w5.cell? ⟨w.heap.size + 1, 3, none⟩ = some ns := by simpa only [World.cell?, same] using hc3
      have b3 : w5.frozen? ⟨w.heap.size + 1, 3, none⟩ = false := by simpa only [World.frozen?, same] using hf3
      obtain ⟨w6, hw6⟩ : ∃ w6, w6 = w5.setCell ⟨w.heap.size + 1, 3, none⟩ (.slice (some ⟨g', 0, none⟩) (k + 1) cap') := ⟨_, rfl⟩
      rw [← hw6] at hmid
      have g4 : w6.cell? ⟨w.heap.size + 1, 4, none⟩ = some its := by simp [World.cell?, hmid.b1]
      have gf4 : w6.frozen? ⟨w.heap.size + 1, 4, none⟩ = false := by simp [World.frozen?, hmid.b1]
      have gm : w6.cell? ⟨wr.heap.size, 1, none⟩ = some (.iface t x) := by
        rw [hw6]; simp only [World.cell?, heap_set_far _ _ _ _ (show wr.heap.size ≠ w.heap.size + 1 by omega), samem]; rfl
      have hlt6 : w.heap.size + 1 < w6.heap.size := (Array.getElem?_eq_some_iff.1 hmid.b1).1
      have hvr : IsVal w6.drew (fun b => P b ∧ b < w.heap.size) m[k].2 (.iface t x) := IsVal.move (w' := w6.drew) (fun b hb hlt => ⟨hmid.kept.block b hb.2 (by omega), hb⟩) _ _ HV2.out.bound
      have HVR := Lib.hid hvr
      have HM := Lib.hid hmid
      have HW6 := Lib.hid hw6
      clear hown' hgrow hloc hmid same samem hw6 hvr hc3 hf3 hc4 hf4 hcella hcellb hOn hOm
      go_upto_region 6 with fail
      rw [← HW6.out]
      clear HW6 a3 b3
      go_region_law
        (first
          | (refine step_append_lies _ (by rfl) _ _ _ (by rfl) (w.heap.size + 2) 26 i0 _ 5 80 Tryz.underlying24 H0.out hz0 hz1 hz2 rfl (by omega) its k cs (by rfl) ((HO3.out.alloc _)) ⟨w3.heap.size, 0, none⟩ 1 1 [.int .i64 k1, .int .i64 n1, str t1, .slice an ln cn, .slice ai li ci] (by rfl) (by rfl) (World.news_of_block (cs := #[.int .i64 k1, .int .i64 n1, str t1, .slice an ln cn, .slice ai li ci]) (t := 26) (fr := (0, 0)) (heap_alloc_new w3 _)) (news5_one _ _ _ _ _ _ _ _ _) Nat.one_pos h63 hb80 (q5 _) (w3.heap.size + 1) (by simp) ?_; (intro gg cap w4 hown1 hgrow hat hlt; have c1 := (hgrow.cell_far ⟨w.heap.size + 1, 4, none⟩ (q8 _) hOi').trans (q6 _); have f1 := (hgrow.frozen_far ⟨w.heap.size + 1, 4, none⟩ (q8 _) hOi').trans (q7 _); have HOW4 := Lib.hid hown1; have HG4 := Lib.hid hgrow; have HAT := Lib.hid hat; clear hown1 hgrow hat))
          | (go_simp; refine (HC.out (fun b => P b ∧ b < w.heap.size) _ ?_).mono ?_; (exact HVR.out); rintro e w3 ⟨k1, n1, t1, an, ln, cn, ai, li, ci, rfl, K3, hJ⟩; have q1 := (K3.cell (o := 4) (show w.heap.size + 1 < w6.drew.heap.size from hlt6)).trans g4; have q2 := (K3.frozen (o := 4) (show w.heap.size + 1 < w6.drew.heap.size from hlt6)).trans gf4; have HO3 := Lib.hid (own_keptB HM.out.items.drew K3); have HJ := Lib.hid hJ; have HK3 := Lib.hid K3; have hw3 : w6.heap.size ≤ w3.heap.size := K3.size; have q3 := fun o => cell_alloc w3 o 4 (show w.heap.size + 1 < w3.heap.size by omega); have q4 := fun o => frozen_alloc w3 o 4 (show w.heap.size + 1 < w3.heap.size by omega); have q6 : ∀ o, (w3.alloc o).cell? ⟨w.heap.size + 1, 4, none⟩ = some its := fun o => (q3 o).trans q1; have q7 : ∀ o, (w3.alloc o).frozen? ⟨w.heap.size + 1, 4, none⟩ = false := fun o => (q4 o).trans q2; clear q3 q4; have q8 : ∀ o, w.heap.size + 1 < (w3.alloc o).heap.size := fun o => le_alloc w3 o (show w.heap.size + 2 ≤ w3.heap.size by omega); have q5 := fun o => le_alloc w3 o (show w.heap.size + 2 ≤ w3.heap.size by omega); clear hJ K3))
      all_goals
        go_wp2_with fail
        go_roundg (m.length - k)
        case measure => have := HG.out; omega
        case rel => exact ⟨k + 1, _, _, _, by omega, by simp, by omega, ObjR.item hk HM.out HK3.out HJ.out HG4.out HOW4.out HAT.out⟩
    · obtain rfl : k = m.length := by omega
      obtain ⟨ag, ac, rfl⟩ : ∃ ag ac, its = .slice ag m.length ac := by
        rcases HRR.out.items.2 with ⟨h, h0⟩ | ⟨g, cap, cur, h, _⟩
        · exact ⟨none, 0, by rw [h, h0]⟩
        · exact ⟨_, _, h⟩
      obtain ⟨bg, bc, rfl⟩ : ∃ bg bc, ns = .slice bg m.length bc := by
        rcases HRR.out.names.2 with ⟨h, h0⟩ | ⟨g, cap, cur, h, _⟩
        · exact ⟨none, 0, by rw [h, h0]⟩
        · exact ⟨_, _, h⟩
      have d0 : wr.cell? ⟨w.heap.size + 1, 0, none⟩ = some (.int .i64 6) := by simp [World.cell?, hb1]
      have e0 : wr.cell? ⟨w.heap.size, 0, none⟩ = some (.int .i64 0) := by simp [World.cell?, hb0]
      have f0 : wr.frozen? ⟨w.heap.size, 0, none⟩ = false := by simp [World.frozen?, hb0]
      have d1 : wr.cell? ⟨w.heap.size + 1, 1, none⟩ = some (.int .i64 0) := by simp [World.cell?, hb1]
      have e1 : wr.cell? ⟨w.heap.size, 1, none⟩ = some (.int .i64 0) := by simp [World.cell?, hb0]
      have f1 : wr.frozen? ⟨w.heap.size, 1, none⟩ = false := by simp [World.frozen?, hb0]
      have d2 : wr.cell? ⟨w.heap.size + 1, 2, none⟩ = some (.string ⟨#[]⟩) := by simp [World.cell?, hb1]
      have e2 : wr.cell? ⟨w.heap.size, 2, none⟩ = some (.string ⟨#[]⟩) := by simp [World.cell?, hb0]
      have f2 : wr.frozen? ⟨w.heap.size, 2, none⟩ = false := by simp [World.frozen?, hb0]
      have d3 : wr.cell? ⟨w.heap.size + 1, 3, none⟩ = some (.slice bg m.length bc) := by simp [World.cell?, hb1]
      have e3 : wr.cell? ⟨w.heap.size, 3, none⟩ = some (.slice none 0 0) := by simp [World.cell?, hb0]
      have f3 : wr.frozen? ⟨w.heap.size, 3, none⟩ = false := by simp [World.frozen?, hb0]
      have d4 : wr.cell? ⟨w.heap.size + 1, 4, none⟩ = some (.slice ag m.length ac) := by simp [World.cell?, hb1]
      have e4 : wr.cell? ⟨w.heap.size, 4, none⟩ = some (.slice none 0 0) := by simp [World.cell?, hb0]
      have f4 : wr.frozen? ⟨w.heap.size, 4, none⟩ = false := by simp [World.frozen?, hb0]
      have HB0 := Lib.hid hb0
      have HB1 := Lib.hid hb1
      clear hb0 hb1
      go_wp2_with fail
      refine bodyPost_ret (by simp [results, Tryz.results131, go_sem, e0, e1, e2, e3, e4]; try rfl) rfl ?_
      have sets : ∀ b, w.heap.size + 2 ≤ b → (setFive wr w.heap.size (.int .i64 6) (.int .i64 0) (.string ⟨#[]⟩) (.slice bg m.length bc) (.slice ag m.length ac)).heap[b]? = wr.heap[b]? := fun b hb => setFive_far _ _ _ _ _ _ trivial (by omega)
      refine ⟨6, 0, [], bg, m.length, bc, ag, m.length, ac, rfl, setFive_kept HRR.out.kept (Nat.le_refl _) _ _ _ _ _, ?_⟩
      refine ⟨bg, bc, ag, ac, cs, by rw [memsOf_length, List.length_map], ?_, ?_, ?_⟩
      · have := HRR.out.names
        rw [List.take_length] at this
        rw [List.length_map, List.map_map]
        exact (Row.of_own this).move (fun b hb hlt => ⟨sets b hb, Nat.le_trans (by omega) hb⟩)
      · rw [memsOf_length]
        exact (Row.of_own HRR.out.items).move (fun b hb hlt => ⟨sets b hb, Nat.le_trans (by omega) hb⟩)
      · have := HRR.out.jots
        rw [List.take_length] at this
        exact IsJots.move (fun b hb hlt => ⟨sets b hb.1, Nat.le_trans (by omega) hb.1⟩) _ _ this

#print axioms object_jot

end Jot
end Go.Proofs.YthgcnmdnjfajbaaGreatDoor
