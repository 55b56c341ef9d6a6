/- Walks of package jot's printing at the known value: depth, lays. Conditions: the known value. -/
/- Walks of package jot at the known value: Print, own, Get, Same. Conditions: the known value. -/
import Derived.Test.YthgcnmdnjfajbaaGreatDoorPrC
import Derived.Deep.QuietTactic
import Derived.BigQuiet
namespace Go.Proofs.YthgcnmdnjfajbaaGreatDoor
open Go.RowKit
namespace Jot

theorem ta_number_null  (w : World) : (Instr.typeAssert (.iface 72 (.int .i64 0)) 44 62 true).run Tryz.prog w = .ok (.tuple #[.agg #[], .bool false]) w := by kernel_rfl
theorem ta_number_truth  (w : World) : (Instr.typeAssert (.iface 72 (.int .i64 0)) 44 63 true).run Tryz.prog w = .ok (.tuple #[.bool false, .bool false]) w := by kernel_rfl
theorem ta_number_number  (w : World) : (Instr.typeAssert (.iface 72 (.int .i64 0)) 44 72 true).run Tryz.prog w = .ok (.tuple #[.int .i64 0, .bool true]) w := by kernel_rfl
theorem ta_number_text  (w : World) : (Instr.typeAssert (.iface 72 (.int .i64 0)) 44 64 true).run Tryz.prog w = .ok (.tuple #[.string ⟨#[]⟩, .bool false]) w := by kernel_rfl
theorem ta_number_list  (w : World) : (Instr.typeAssert (.iface 72 (.int .i64 0)) 44 77 true).run Tryz.prog w = .ok (.tuple #[.slice none 0 0, .bool false]) w := by kernel_rfl
theorem ta_number_object  (w : World) : (Instr.typeAssert (.iface 72 (.int .i64 0)) 44 79 true).run Tryz.prog w = .ok (.tuple #[.slice none 0 0, .bool false]) w := by kernel_rfl
theorem ta_list_null  (w : World) : (Instr.typeAssert (.iface 77 (.slice none 0 0)) 44 62 true).run Tryz.prog w = .ok (.tuple #[.agg #[], .bool false]) w := by kernel_rfl
theorem ta_list_truth  (w : World) : (Instr.typeAssert (.iface 77 (.slice none 0 0)) 44 63 true).run Tryz.prog w = .ok (.tuple #[.bool false, .bool false]) w := by kernel_rfl
theorem ta_list_number  (w : World) : (Instr.typeAssert (.iface 77 (.slice none 0 0)) 44 72 true).run Tryz.prog w = .ok (.tuple #[.int .i64 0, .bool false]) w := by kernel_rfl
theorem ta_list_text  (w : World) : (Instr.typeAssert (.iface 77 (.slice none 0 0)) 44 64 true).run Tryz.prog w = .ok (.tuple #[.string ⟨#[]⟩, .bool false]) w := by kernel_rfl
theorem ta_list_list  (w : World) : (Instr.typeAssert (.iface 77 (.slice none 0 0)) 44 77 true).run Tryz.prog w = .ok (.tuple #[.slice none 0 0, .bool true]) w := by kernel_rfl
theorem ta_list_object  (w : World) : (Instr.typeAssert (.iface 77 (.slice none 0 0)) 44 79 true).run Tryz.prog w = .ok (.tuple #[.slice none 0 0, .bool false]) w := by kernel_rfl
theorem ta_object_null (g c : Nat) (w : World) : (Instr.typeAssert (.iface 79 (.slice (some ⟨g, 0, none⟩) 2 c)) 44 62 true).run Tryz.prog w = .ok (.tuple #[.agg #[], .bool false]) w := by kernel_rfl
theorem ta_object_truth (g c : Nat) (w : World) : (Instr.typeAssert (.iface 79 (.slice (some ⟨g, 0, none⟩) 2 c)) 44 63 true).run Tryz.prog w = .ok (.tuple #[.bool false, .bool false]) w := by kernel_rfl
theorem ta_object_number (g c : Nat) (w : World) : (Instr.typeAssert (.iface 79 (.slice (some ⟨g, 0, none⟩) 2 c)) 44 72 true).run Tryz.prog w = .ok (.tuple #[.int .i64 0, .bool false]) w := by kernel_rfl
theorem ta_object_text (g c : Nat) (w : World) : (Instr.typeAssert (.iface 79 (.slice (some ⟨g, 0, none⟩) 2 c)) 44 64 true).run Tryz.prog w = .ok (.tuple #[.string ⟨#[]⟩, .bool false]) w := by kernel_rfl
theorem ta_object_list (g c : Nat) (w : World) : (Instr.typeAssert (.iface 79 (.slice (some ⟨g, 0, none⟩) 2 c)) 44 77 true).run Tryz.prog w = .ok (.tuple #[.slice none 0 0, .bool false]) w := by kernel_rfl
theorem ta_object_object (g c : Nat) (w : World) : (Instr.typeAssert (.iface 79 (.slice (some ⟨g, 0, none⟩) 2 c)) 44 79 true).run Tryz.prog w = .ok (.tuple #[.slice (some ⟨g, 0, none⟩) 2 c, .bool true]) w := by kernel_rfl

set_option maxRecDepth 100000 in
set_option maxHeartbeats 1000000 in
theorem depth_num (w : World) : Calls Tryz.prog 16 #[.iface 72 (.int .i64 0)] w fun e w' => e = .returned (.int .i64 0) ∧ w' = w := by
  have a_list := ta_number_list
  have a_object := ta_number_object
  go_enter Tryz.func16, Tryz.ntmps16
  go_wp2
  go_ret
  exact ⟨rfl, rfl⟩

set_option maxRecDepth 100000 in
set_option maxHeartbeats 1000000 in
theorem depth_nil (w : World) : Calls Tryz.prog 16 #[.iface 77 (.slice none 0 0)] w fun e w' => e = .returned (.int .i64 1) ∧ w' = w := by
  have a_list := ta_list_list
  go_enter Tryz.func16, Tryz.ntmps16
  go_wp2
  go_loopg [3, 17] 1 (fun g dv kv wr => dv = .int .i64 0 ∧ kv = .int .i64 0 ∧ wr = w)
  case atStart => exact ⟨rfl, rfl, rfl⟩
  case round =>
    obtain ⟨rfl, rfl, rfl⟩ := hrel
    go_wp2
    go_ret
    exact ⟨rfl, rfl⟩

/-- The members' row, where it lies. -/
def KM (w : World) (g : Nat) : Prop := (∃ fr, ∃ cur, w.heap[g]? = some (.cells cur 81 fr)) ∧ w.cell? ⟨g, 0, none⟩ = some (.string ⟨#[97]⟩) ∧ w.cell? ⟨g, 1, none⟩ = some (.iface 72 (.int .i64 0)) ∧ w.cell? ⟨g, 2, none⟩ = some (.string ⟨#[98]⟩) ∧ w.cell? ⟨g, 3, none⟩ = some (.iface 77 (.slice none 0 0))

theorem KM.of_own {w : World} {B g c : Nat} (h : w.ownsRow B 81 2 (.slice (some ⟨g, 0, none⟩) 2 c) 2 kmems) : KM w g := by
  have hc : ∀ (k : Nat) (u : Value), kmems[k]? = some u → w.cell? ⟨g, k, none⟩ = some u := fun k u hu => by
    have h3 := World.ownsRow.cells (g := g) h rfl k u hu
    rw [Addr.add_lit, Nat.zero_add] at h3
    exact h3
  obtain ⟨cur, hcur⟩ := row_tag h g rfl
  exact ⟨⟨_, cur, hcur⟩, hc 0 _ rfl, hc 1 _ rfl, hc 2 _ rfl, hc 3 _ rfl⟩

theorem KM.stays {w w' : World} {g b : Nat} (h : KM w g) (hs : Stays b w w') (hb : g ≠ b) : KM w' g := by
  obtain ⟨⟨fr, cur, hc⟩, h0, h1, h2, h3⟩ := h
  have hc' := hs g cur _ fr hb (by decide) hc
  have e : ∀ o, w'.cell? ⟨g, o, none⟩ = w.cell? ⟨g, o, none⟩ := fun o => by simp only [World.cell?, hc, hc']
  exact ⟨⟨fr, cur, hc'⟩, (e 0).trans h0, (e 1).trans h1, (e 2).trans h2, (e 3).trans h3⟩

theorem KM.lt {w : World} {g : Nat} (h : KM w g) : g < w.heap.size := by
  obtain ⟨⟨fr, cur, hc⟩, _⟩ := h
  exact (Array.getElem?_eq_some_iff.1 hc).1

theorem KM.below {w w' : World} {g B : Nat} (h : KM w g) (hb : Below B w w') (hg : g < B) : KM w' g := by
  obtain ⟨⟨fr, cur, hc⟩, h0, h1, h2, h3⟩ := h
  have e : ∀ o, w'.cell? ⟨g, o, none⟩ = w.cell? ⟨g, o, none⟩ := fun o => hb.cell (p := ⟨g, o, none⟩) hg
  exact ⟨⟨fr, cur, (hb.block g hg).trans hc⟩, (e 0).trans h0, (e 1).trans h1, (e 2).trans h2, (e 3).trans h3⟩

set_option maxRecDepth 100000 in
set_option maxHeartbeats 1000000 in
theorem depth_obj (g c : Nat) (w : World) (h : KM w g) : Calls Tryz.prog 16 #[.iface 79 (.slice (some ⟨g, 0, none⟩) 2 c)] w (Made (.int .i64 2) w) := by
  have H := Lib.hid h
  clear h
  have a_list := ta_object_list g c
  have a_object := ta_object_object g c
  go_enter Tryz.func16, Tryz.ntmps16
  go_wp2
  go_loopg [3, 31] 2 (fun q dv kv wr => Below w.heap.size w wr ∧ ((q = 2 ∧ dv = .int .i64 0 ∧ kv = .int .i64 0) ∨ (q = 1 ∧ dv = .int .i64 0 ∧ kv = .int .i64 1) ∨ (q = 0 ∧ dv = .int .i64 1 ∧ kv = .int .i64 2)))
  case atStart => exact ⟨Below.refl _ _, .inl ⟨rfl, rfl, rfl⟩⟩
  case round =>
    obtain ⟨hB, hor⟩ := hrel
    obtain ⟨_, m0, m1, m2, m3⟩ := H.out.below hB H.out.lt
    have HB := Lib.hid hB
    have hs := hB.size
    clear hB
    rcases hor with ⟨hg, rfl, rfl⟩ | ⟨hg, rfl, rfl⟩ | ⟨hg, rfl, rfl⟩
    · have HG := Lib.hid hg
      clear hg
      go_wp2_with fail
      refine (depth_num _).mono ?_
      rintro e w2 ⟨rfl, rfl⟩
      go_wp2_with fail
      go_roundg 1
      case measure => rw [HG.out]; omega
      case rel => exact ⟨HB.out.alloc hs _, .inr (.inl ⟨rfl, rfl, rfl⟩)⟩
    · have HG := Lib.hid hg
      clear hg
      go_wp2_with fail
      refine (depth_nil _).mono ?_
      rintro e w2 ⟨rfl, rfl⟩
      go_wp2_with fail
      go_roundg 0
      case measure => rw [HG.out]; omega
      case rel => exact ⟨HB.out.alloc hs _, .inr (.inr ⟨rfl, rfl, rfl⟩)⟩
    · clear hg
      go_wp2_with fail
      go_ret
      exact ⟨rfl, HB.out⟩

set_option maxRecDepth 100000 in
set_option maxHeartbeats 1000000 in
theorem lays_num (B b : Nat) (bs : List Value) (w : World) (h : Lib.IsBuilder 54 5 B b bs w) (hlen : bs.length ≤ 1000) (hBw : B ≤ w.heap.size) :
    Calls Tryz.prog 17 #[.pointer (some ⟨b, 0, none⟩), .iface 72 (.int .i64 0)] w (Wrote B b (bs ++ [.int .u8 48]) (.tuple #[]) w) := by
  have H := Lib.hid h
  clear h
  have a_null := ta_number_null
  have a_truth := ta_number_truth
  have a_number := ta_number_number
  go_enter Tryz.func17, Tryz.ntmps17
  go_wp2_with fail
  refine (itoa_0 _).mono ?_
  rintro e w1 ⟨rfl, rfl⟩
  go_wp2_with fail
  refine (wString B b _ ⟨#[48]⟩ _ (by exact H.out) (by simp [ByteArray.size]; omega) hBw).mono ?_
  rintro e w2 ⟨rfl, h2, K2, S2⟩
  have H2 := Lib.hid h2
  clear h2
  go_wp2_with fail
  go_end0
  exact ⟨rfl, H2.out, K2, S2⟩

set_option maxRecDepth 100000 in
set_option maxHeartbeats 1000000 in
theorem lays_nil (B b : Nat) (bs : List Value) (w : World) (h : Lib.IsBuilder 54 5 B b bs w) (hlen : bs.length ≤ 1000) (hBw : B ≤ w.heap.size) :
    Calls Tryz.prog 17 #[.pointer (some ⟨b, 0, none⟩), .iface 77 (.slice none 0 0)] w (Wrote B b (bs ++ [.int .u8 91] ++ [.int .u8 93]) (.tuple #[]) w) := by
  have H := Lib.hid h
  clear h
  have a_null := ta_list_null
  have a_truth := ta_list_truth
  have a_number := ta_list_number
  have a_text := ta_list_text
  have a_list := ta_list_list
  go_enter Tryz.func17, Tryz.ntmps17
  go_wp2_with fail
  refine (wByte B b _ 91 _ (by exact H.out) (by omega) hBw).mono ?_
  rintro e w1 ⟨rfl, h1, K1, S1⟩
  have H1 := Lib.hid h1
  have HS1 := Lib.hid S1
  clear h1 S1
  go_wp2_with fail
  go_loopg [47] 1 (fun g kv wr => kv = .int .i64 0 ∧ wr = w1)
  case atStart => exact ⟨rfl, rfl⟩
  case round =>
    obtain ⟨rfl, rfl⟩ := hrel
    go_wp2_with fail
    refine (wByte B b _ 93 _ (by exact H1.out) (by simp; omega) (Nat.le_trans hBw K1.size)).mono ?_
    rintro e w2 ⟨rfl, h2, K2, S2⟩
    have H2 := Lib.hid h2
    have HS2 := Lib.hid (HS1.out.trans S2)
    clear h2 S2
    go_wp2_with fail
    go_end0
    exact ⟨rfl, H2.out, K1.trans K2, HS2.out⟩

theorem isB_alloc {T e : TypeId} {B b : Nat} {bs : List Value} {w : World} (h : Lib.IsBuilder T e B b bs w) (o : Obj) : Lib.IsBuilder T e B b bs (w.alloc o) := by
  have key : ∀ p, Lib.BuilderAt T e B b p bs w → Lib.BuilderAt T e B b p bs (w.alloc o) := fun p ⟨hB, v, hb, ho, hn⟩ =>
    ⟨hB, v, (Below.heap_alloc _ _ _ (Array.getElem?_eq_some_iff.1 hb).1).trans hb, ho.alloc o, hn⟩
  exact h.elim (fun h => .inl (key _ h)) (fun h => .inr (key _ h))

set_option maxRecDepth 100000 in
set_option maxHeartbeats 4000000 in
theorem lays_obj (B b g c : Nat) (w : World) (h : Lib.IsBuilder 54 5 B b [] w) (hBw : B ≤ w.heap.size) (hm : KM w g) (hgb : g ≠ b) :
    Calls Tryz.prog 17 #[.pointer (some ⟨b, 0, none⟩), .iface 79 (.slice (some ⟨g, 0, none⟩) 2 c)] w
      (Wrote B b ([.int .u8 123, .int .u8 34, .int .u8 97, .int .u8 34, .int .u8 58, .int .u8 48, .int .u8 44, .int .u8 34, .int .u8 98, .int .u8 34, .int .u8 58, .int .u8 91, .int .u8 93, .int .u8 125]) (.tuple #[]) w) := by
  have H := Lib.hid h
  have HM := Lib.hid hm
  have hbl : b < w.heap.size := by rcases h with h | h <;> exact h.lt
  clear h hm
  have a_null := ta_object_null g c
  have a_truth := ta_object_truth g c
  have a_number := ta_object_number g c
  have a_text := ta_object_text g c
  have a_list := ta_object_list g c
  have a_object := ta_object_object g c
  go_enter Tryz.func17, Tryz.ntmps17
  go_wp2_with fail
  refine (wByte B b _ 123 _ (by exact H.out) (by simp) hBw).mono ?_
  rintro e w1 ⟨rfl, h1, K1, S1⟩
  have H1 := Lib.hid h1
  have HS1 := Lib.hid S1
  have hs1 := K1.size
  clear h1 S1
  go_wp2_with fail
  go_loopg [69] 2 (fun q kv wr => Below B w wr ∧ Stays b w wr ∧ ((q = 2 ∧ kv = .int .i64 0 ∧ Lib.IsBuilder 54 5 B b ([.int .u8 123]) wr) ∨
    (q = 1 ∧ kv = .int .i64 1 ∧ Lib.IsBuilder 54 5 B b ([.int .u8 123, .int .u8 34, .int .u8 97, .int .u8 34, .int .u8 58, .int .u8 48]) wr) ∨
    (q = 0 ∧ kv = .int .i64 2 ∧ Lib.IsBuilder 54 5 B b ([.int .u8 123, .int .u8 34, .int .u8 97, .int .u8 34, .int .u8 58, .int .u8 48, .int .u8 44, .int .u8 34, .int .u8 98, .int .u8 34, .int .u8 58, .int .u8 91, .int .u8 93]) wr)))
  case atStart => exact ⟨K1, HS1.out, .inl ⟨rfl, rfl, H1.out⟩⟩
  case round =>
    obtain ⟨hB, hS, hor⟩ := hrel
    obtain ⟨_, m0, m1, m2, m3⟩ := HM.out.stays hS hgb
    have HB := Lib.hid hB
    have HS := Lib.hid hS
    have hsr := Nat.le_trans hBw hB.size
    have hbr := Nat.lt_of_lt_of_le hbl hB.size
    clear hB hS
    rcases hor with ⟨hg, rfl, hb⟩ | ⟨hg, rfl, hb⟩ | ⟨hg, rfl, hb⟩
    · have HG := Lib.hid hg
      have HBB := Lib.hid hb
      clear hg hb
      go_wp2_with fail
      have HX := Lib.hid (heap_alloc_new wr (.cells #[.string ⟨#[97]⟩, .iface 72 (.int .i64 0)] 81))
      have HA := Lib.hid (isB_alloc HBB.out (.cells #[.string ⟨#[97]⟩, .iface 72 (.int .i64 0)] 81))
      have HSA := Lib.hid (HS.out.alloc (.cells #[.string ⟨#[97]⟩, .iface 72 (.int .i64 0)] 81))
      have HBA := Lib.hid (HB.out.alloc hsr (.cells #[.string ⟨#[97]⟩, .iface 72 (.int .i64 0)] 81))
      have hsa : B ≤ (wr.alloc (.cells #[.string ⟨#[97]⟩, .iface 72 (.int .i64 0)] 81)).heap.size := by simp; omega
      obtain ⟨v1, hv1⟩ : ∃ v1, v1 = wr.alloc (.cells #[.string ⟨#[97]⟩, .iface 72 (.int .i64 0)] 81) := ⟨_, rfl⟩
      rw [← hv1] at HX HA HSA HBA hsa ⊢
      have HA1 := HA
      have HX1 := HX
      have HT1 := Lib.hid (Stays.refl b v1)
      have HJ1 := Lib.hid (Below.refl B v1)
      have hj1 := Nat.le_refl v1.heap.size
      clear hv1
      refine (quoted_97 B b _ v1 (by exact HA1.out) (by simp) (by omega)).mono ?_
      rintro e v2 ⟨rfl, h2', J2, T2⟩
      have HA2 := Lib.hid h2'
      have HT2 := Lib.hid T2
      have HJ2 := Lib.hid J2
      have hj2 := J2.size
      have HX2 := Lib.hid (T2 _ _ _ _ (by omega) (by decide) HX1.out)
      clear h2' T2 J2
      go_wp2_with fail
      refine (wByte B b _ 58 v2 (by exact HA2.out) (by simp) (by omega)).mono ?_
      rintro e v3 ⟨rfl, h3', J3, T3⟩
      have HA3 := Lib.hid h3'
      have HT3 := Lib.hid T3
      have HJ3 := Lib.hid J3
      have hj3 := J3.size
      have HX3 := Lib.hid (T3 _ _ _ _ (by omega) (by decide) HX2.out)
      have x1 : v3.cell? ⟨wr.heap.size, 1, none⟩ = some (.iface 72 (.int .i64 0)) := by simp [World.cell?, HX3.out]
      clear h3' T3 J3
      go_wp2_with fail
      refine (lays_num B b _ v3 (by exact HA3.out) (by simp) (by omega)).mono ?_
      rintro e v4 ⟨rfl, h4', J4, T4⟩
      have HA4 := Lib.hid h4'
      have HT4 := Lib.hid (HSA.out.trans (HT1.out.trans (HT2.out.trans (HT3.out.trans T4))))
      have HJ4 := Lib.hid (HBA.out.trans (HJ1.out.trans (HJ2.out.trans (HJ3.out.trans J4))))
      clear h4' T4 J4
      go_wp2_with fail
      go_roundg 1
      case measure => rw [HG.out]; omega
      case rel => exact ⟨HJ4.out, HT4.out, .inr (.inl ⟨rfl, rfl, HA4.out⟩)⟩
    · have HG := Lib.hid hg
      have HBB := Lib.hid hb
      clear hg hb
      go_wp2_with fail
      have HX := Lib.hid (heap_alloc_new wr (.cells #[.string ⟨#[98]⟩, .iface 77 (.slice none 0 0)] 81))
      have HA := Lib.hid (isB_alloc HBB.out (.cells #[.string ⟨#[98]⟩, .iface 77 (.slice none 0 0)] 81))
      have HSA := Lib.hid (HS.out.alloc (.cells #[.string ⟨#[98]⟩, .iface 77 (.slice none 0 0)] 81))
      have HBA := Lib.hid (HB.out.alloc hsr (.cells #[.string ⟨#[98]⟩, .iface 77 (.slice none 0 0)] 81))
      have hsa : B ≤ (wr.alloc (.cells #[.string ⟨#[98]⟩, .iface 77 (.slice none 0 0)] 81)).heap.size := by simp; omega
      refine (wByte B b _ 44 _ (by exact HA.out) (by simp) hsa).mono ?_
      rintro e v1 ⟨rfl, h1', J1, T1⟩
      have HA1 := Lib.hid h1'
      have HT1 := Lib.hid T1
      have HJ1 := Lib.hid J1
      have hj1 := J1.size
      have HX1 := Lib.hid (T1 _ _ _ _ (by omega) (by decide) HX.out)
      have x0 : v1.cell? ⟨wr.heap.size, 0, none⟩ = some (.string ⟨#[98]⟩) := by simp [World.cell?, HX1.out]
      clear h1' T1 J1
      go_wp2_with fail
      refine (quoted_98 B b _ v1 (by exact HA1.out) (by simp) (by omega)).mono ?_
      rintro e v2 ⟨rfl, h2', J2, T2⟩
      have HA2 := Lib.hid h2'
      have HT2 := Lib.hid T2
      have HJ2 := Lib.hid J2
      have hj2 := J2.size
      have HX2 := Lib.hid (T2 _ _ _ _ (by omega) (by decide) HX1.out)
      clear h2' T2 J2
      go_wp2_with fail
      refine (wByte B b _ 58 v2 (by exact HA2.out) (by simp) (by omega)).mono ?_
      rintro e v3 ⟨rfl, h3', J3, T3⟩
      have HA3 := Lib.hid h3'
      have HT3 := Lib.hid T3
      have HJ3 := Lib.hid J3
      have hj3 := J3.size
      have HX3 := Lib.hid (T3 _ _ _ _ (by omega) (by decide) HX2.out)
      have x1 : v3.cell? ⟨wr.heap.size, 1, none⟩ = some (.iface 77 (.slice none 0 0)) := by simp [World.cell?, HX3.out]
      clear h3' T3 J3
      go_wp2_with fail
      refine (lays_nil B b _ v3 (by exact HA3.out) (by simp) (by omega)).mono ?_
      rintro e v4 ⟨rfl, h4', J4, T4⟩
      have HA4 := Lib.hid h4'
      have HT4 := Lib.hid (HSA.out.trans (HT1.out.trans (HT2.out.trans (HT3.out.trans T4))))
      have HJ4 := Lib.hid (HBA.out.trans (HJ1.out.trans (HJ2.out.trans (HJ3.out.trans J4))))
      clear h4' T4 J4
      go_wp2_with fail
      go_roundg 0
      case measure => rw [HG.out]; omega
      case rel => exact ⟨HJ4.out, HT4.out, .inr (.inr ⟨rfl, rfl, HA4.out⟩)⟩
    · have HBB := Lib.hid hb
      clear hg hb
      go_wp2_with fail
      refine (wByte B b _ 125 _ (by exact HBB.out) (by simp) hsr).mono ?_
      rintro e v2 ⟨rfl, h2', J2, T2⟩
      have HA2 := Lib.hid h2'
      have HT2 := Lib.hid (HS.out.trans T2)
      clear h2' T2
      go_wp2_with fail
      go_end0
      exact ⟨rfl, HA2.out, HB.out.trans J2, HT2.out⟩

end Jot
end Go.Proofs.YthgcnmdnjfajbaaGreatDoor

namespace Go.Proofs.YthgcnmdnjfajbaaGreatDoor
open Go.RowKit
namespace Jot

/-- What is printed. -/
def ktext : Bs := [123, 34, 97, 34, 58, 48, 44, 34, 98, 34, 58, 91, 93, 125]

set_option maxRecDepth 100000 in
set_option maxHeartbeats 2000000 in
theorem print_k (g1 g2 : Nat) (an0 : Option Addr) (cn0 : Nat) (ai0 : Option Addr) (ci0 : Nat) (an1 : Option Addr) (cn1 : Nat) (ai1 : Option Addr) (ci1 : Nat) (c1 c2 : Nat) (w : World) (h : KV w g1 g2 an0 cn0 ai0 ci0 an1 cn1 ai1 ci1) :
    Calls Tryz.prog 7 #[.agg #[.int .i64 6, .int .i64 0, .string ⟨#[]⟩, .slice (some ⟨g1, 0, none⟩) 2 c1, .slice (some ⟨g2, 0, none⟩) 2 c2]] w
      (Made (.tuple #[.string ⟨ktext.toArray⟩, .int .i64 0]) w) := by
  have H := Lib.hid h
  clear h
  go_enter Tryz.func7, Tryz.ntmps7
  go_wp2_with fail
  have HB := Lib.hid ((Below.refl w.heap.size w).alloc (Nat.le_refl _) (.cells #[.int .i64 6, .int .i64 0, .string ⟨#[]⟩, .slice (some ⟨g1, 0, none⟩) 2 c1, .slice (some ⟨g2, 0, none⟩) 2 c2] 26 (0, 0)))
  generalize w.alloc (.cells #[.int .i64 6, .int .i64 0, .string ⟨#[]⟩, .slice (some ⟨g1, 0, none⟩) 2 c1, .slice (some ⟨g2, 0, none⟩) 2 c2] 26 (0, 0)) = wa at *
  have hsa := HB.out.size
  refine (inside_k g1 g2 an0 cn0 ai0 ci0 an1 cn1 ai1 ci1 c1 c2 _ (by exact H.out.below HB.out H.out.l1 H.out.l2)).mono ?_
  rintro e w2 ⟨g, c, rfl, K2, hO⟩
  have HM2 := Lib.hid (KM.of_own hO)
  have HB2 := Lib.hid (HB.out.trans (K2.mono hsa))
  have hs2 := HB2.out.size
  clear K2 hO
  go_wp2_with fail
  refine (depth_obj g c _ HM2.out).mono ?_
  rintro e w3 ⟨rfl, K3⟩
  have HB3 := Lib.hid (HB2.out.trans (K3.mono hs2))
  have HM3 := Lib.hid (HM2.out.below K3 HM2.out.lt)
  have hs3 := HB3.out.size
  clear K3
  go_wp2_with fail
  have HF := Lib.hid (Lib.fresh_isBuilder 54 5 w3)
  have HM4 := Lib.hid (HM3.out.below ((Below.refl w3.heap.size w3).alloc (Nat.le_refl _) (.cells #[.pointer none, .slice none 0 0] 54)) HM3.out.lt)
  have HB4 := Lib.hid (HB3.out.alloc hs3 (.cells #[.pointer none, .slice none 0 0] 54))
  have hgl := HM3.out.lt
  have hs4 : w3.heap.size ≤ (w3.alloc (.cells #[.pointer none, .slice none 0 0] 54)).heap.size := by simp
  generalize w3.alloc (.cells #[.pointer none, .slice none 0 0] 54) = w4 at *
  refine (lays_obj w3.heap.size w3.heap.size g c w4 HF.out hs4 HM4.out (by omega)).mono ?_
  rintro e w5 ⟨rfl, h5, K5, S5⟩
  have H5 : Hid (Lib.IsBuilder 54 5 w3.heap.size w3.heap.size (Lib.byteCells ktext) w5) := h5
  have HB5 := Lib.hid (HB4.out.trans (K5.mono hs3))
  clear h5 K5 S5
  go_wp2_with fail
  refine (Tryz.Builder_Len w3.heap.size w3.heap.size (Lib.byteCells ktext) w5 (by exact H5.out)).mono ?_
  rintro e w6 ⟨rfl, rfl⟩
  have hl : (((Lib.byteCells ktext).length : Nat) : Int) = 14 := by rfl
  rw [hl]
  clear hl
  go_wp2_with fail
  refine (Tryz.Builder_String w3.heap.size w3.heap.size ktext _ (by exact H5.out) (by decide)).mono ?_
  rintro e w7 ⟨rfl, K7⟩
  go_wp2_with fail
  go_ret2
  exact ⟨rfl, HB5.out.trans (K7.mono hs3)⟩

end Jot
end Go.Proofs.YthgcnmdnjfajbaaGreatDoor
