/- Walks of package jot's printing at the known value: bare, inside, items. Conditions: the known value. -/
/- Walks of package jot's printing at the known value: insideObject, inside, depth (printed by gen_prd.py). Conditions: the known value. -/
import Derived.Test.YthgcnmdnjfajbaaGreatDoorPrA
namespace Go.Proofs.YthgcnmdnjfajbaaGreatDoor
open Go.RowKit
namespace Jot

/-- A call that makes memory alone. -/
def Made (v : Value) (w : World) (e : Ending) (w' : World) : Prop := e = .returned v ∧ Below w.heap.size w w'

theorem Below.kB {w w' : World} (h : Below w.heap.size w w') {B : Nat} (hB : B ≤ w.heap.size) : Below B w w' := h.mono hB

set_option maxRecDepth 100000 in
theorem bare_num (an : Option Addr) (cn : Nat) (ai : Option Addr) (ci : Nat) (w : World) :
    Calls Tryz.prog 30 #[.agg #[.int .i64 3, .int .i64 0, .string ⟨#[]⟩, .slice an 0 cn, .slice ai 0 ci], .bool true, .bool false, .bool false, .bool false] w (Made (.bool true) w) := by
  go_enter Tryz.func30, Tryz.ntmps30
  go_wp2_with fail
  go_ret
  exact ⟨rfl, (Below.refl _ _).alloc (Nat.le_refl _) _⟩

set_option maxRecDepth 100000 in
theorem bare_list (an : Option Addr) (cn : Nat) (ai : Option Addr) (ci : Nat) (w : World) :
    Calls Tryz.prog 30 #[.agg #[.int .i64 5, .int .i64 0, .string ⟨#[]⟩, .slice an 0 cn, .slice ai 0 ci], .bool false, .bool false, .bool false, .bool true] w (Made (.bool true) w) := by
  go_enter Tryz.func30, Tryz.ntmps30
  go_wp2_with fail
  go_ret
  exact ⟨rfl, (Below.refl _ _).alloc (Nat.le_refl _) _⟩

set_option maxRecDepth 100000 in
theorem bare_obj (an : Option Addr) (cn : Nat) (ai : Option Addr) (ci : Nat) (w : World) :
    Calls Tryz.prog 30 #[.agg #[.int .i64 6, .int .i64 0, .string ⟨#[]⟩, .slice an 2 cn, .slice ai 2 ci], .bool false, .bool false, .bool true, .bool true] w (Made (.bool true) w) := by
  go_enter Tryz.func30, Tryz.ntmps30
  go_wp2_with fail
  go_ret
  exact ⟨rfl, (Below.refl _ _).alloc (Nat.le_refl _) _⟩

/-- What the walk reads of an item that lies in a block of its own. -/
theorem five_cells' {w : World} {b : Nat} {u0 u1 u2 u3 u4 : Value} {t : TypeId} (h : w.heap[b]? = some (.cells #[u0, u1, u2, u3, u4] t (0, 0))) :
    w.cell? ⟨b, 0, none⟩ = some u0 ∧ w.cell? ⟨b, 1, none⟩ = some u1 ∧ w.cell? ⟨b, 2, none⟩ = some u2 ∧ w.cell? ⟨b, 3, none⟩ = some u3 ∧ w.cell? ⟨b, 4, none⟩ = some u4 := by
  refine ⟨?_, ?_, ?_, ?_, ?_⟩ <;> simp [World.cell?, h]

theorem bcell {W w1 : World} (hb : Below W.heap.size W w1) : (∀ b o, b < W.heap.size → w1.cell? ⟨b, o, none⟩ = W.cell? ⟨b, o, none⟩) ∧ (∀ b o, b < W.heap.size → w1.frozen? ⟨b, o, none⟩ = W.frozen? ⟨b, o, none⟩) :=
  ⟨fun b o h => hb.cell (p := ⟨b, o, none⟩) h, fun b o h => hb.frozen (p := ⟨b, o, none⟩) h⟩

set_option maxRecDepth 100000 in
set_option maxHeartbeats 1000000 in
theorem inside_num (an : Option Addr) (cn : Nat) (ai : Option Addr) (ci : Nat) (w : World) :
    Calls Tryz.prog 15 #[.agg #[.int .i64 3, .int .i64 0, .string ⟨#[]⟩, .slice an 0 cn, .slice ai 0 ci]] w (Made (.tuple #[.iface 72 (.int .i64 0), .bool true]) w) := by
  go_enter Tryz.func15, Tryz.ntmps15
  go_upto_region 8 with fail
  have HX := Lib.hid (heap_alloc_new w (.cells #[.int .i64 3, .int .i64 0, .string ⟨#[]⟩, .slice an 0 cn, .slice ai 0 ci] 26 (0, 0)))
  have HB := Lib.hid ((Below.refl w.heap.size w).alloc (Nat.le_refl _) (.cells #[.int .i64 3, .int .i64 0, .string ⟨#[]⟩, .slice an 0 cn, .slice ai 0 ci] 26 (0, 0)))
  generalize w.alloc (.cells #[.int .i64 3, .int .i64 0, .string ⟨#[]⟩, .slice an 0 cn, .slice ai 0 ci] 26 (0, 0)) = wa at *
  obtain ⟨x0, x1, x2, x3, x4⟩ := five_cells' HX.out
  have hlt := (Array.getElem?_eq_some_iff.1 HX.out).1
  have hsz := HB.out.size
  go_region_with (go_at_call 30; refine (bare_num an cn ai ci _).mono ?_; rintro e w2 ⟨rfl, K2⟩; have y1 := (K2.cell (p := ⟨w.heap.size, 1, none⟩) hlt).trans x1; have HK := Lib.hid K2; clear K2)
  all_goals
    go_wp2_with fail
    go_ret2
    exact ⟨rfl, HB.out.trans (Below.trans ((Below.refl _ _).drew) (HK.out.mono (by exact hsz)))⟩

set_option maxRecDepth 100000 in
set_option maxHeartbeats 1000000 in
theorem items_nil (ai : Option Addr) (ci : Nat) (w : World) :
    Calls Tryz.prog 32 #[.slice ai 0 ci] w (Made (.tuple #[.slice none 0 0, .bool true]) w) := by
  go_enter Tryz.func32, Tryz.ntmps32
  go_wp2_with fail
  go_loopg [4, 11] 1 (fun g ov kv wr => ov = .slice none 0 0 ∧ kv = .int .i64 0 ∧ wr = w)
  case atStart => exact ⟨rfl, rfl, rfl⟩
  case round =>
    obtain ⟨rfl, rfl, rfl⟩ := hrel
    go_wp2_with fail
    go_ret2
    exact ⟨rfl, Below.refl _ _⟩

set_option maxRecDepth 100000 in
set_option maxHeartbeats 1000000 in
theorem inside_list (an : Option Addr) (cn : Nat) (ai : Option Addr) (ci : Nat) (w : World) :
    Calls Tryz.prog 15 #[.agg #[.int .i64 5, .int .i64 0, .string ⟨#[]⟩, .slice an 0 cn, .slice ai 0 ci]] w (Made (.tuple #[.iface 77 (.slice none 0 0), .bool true]) w) := by
  go_enter Tryz.func15, Tryz.ntmps15
  go_wp2_with fail
  have HX := Lib.hid (heap_alloc_new w (.cells #[.int .i64 5, .int .i64 0, .string ⟨#[]⟩, .slice an 0 cn, .slice ai 0 ci] 26 (0, 0)))
  have HB := Lib.hid ((Below.refl w.heap.size w).alloc (Nat.le_refl _) (.cells #[.int .i64 5, .int .i64 0, .string ⟨#[]⟩, .slice an 0 cn, .slice ai 0 ci] 26 (0, 0)))
  generalize w.alloc (.cells #[.int .i64 5, .int .i64 0, .string ⟨#[]⟩, .slice an 0 cn, .slice ai 0 ci] 26 (0, 0)) = wa at *
  have hlt := (Array.getElem?_eq_some_iff.1 HX.out).1
  have hsz := HB.out.size
  refine (items_nil ai ci _).mono ?_
  rintro e w2 ⟨rfl, K2⟩
  have HX2 := Lib.hid ((K2.block _ hlt).trans HX.out)
  have HB2 := Lib.hid (HB.out.trans (K2.mono hsz))
  obtain ⟨x0, x1, x2, x3, x4⟩ := five_cells' HX2.out
  clear K2
  go_wp2_with fail
  refine (bare_list an cn ai ci _).mono ?_
  rintro e w3 ⟨rfl, K3⟩
  go_wp2_with fail
  go_ret2
  exact ⟨rfl, HB2.out.trans (K3.mono HB2.out.size)⟩

/-- The known value's rows. -/
structure KV (w : World) (g1 g2 : Nat) (an0 : Option Addr) (cn0 : Nat) (ai0 : Option Addr) (ci0 : Nat) (an1 : Option Addr) (cn1 : Nat) (ai1 : Option Addr) (ci1 : Nat) : Prop where
  l1 : g1 < w.heap.size
  l2 : g2 < w.heap.size
  n0 : w.cell? ⟨g1, 0, none⟩ = some (.string ⟨#[97]⟩)
  n1 : w.cell? ⟨g1, 1, none⟩ = some (.string ⟨#[98]⟩)
  i0 : w.cell? ⟨g2, 0, none⟩ = some (.int .i64 3)
  i1 : w.cell? ⟨g2, 1, none⟩ = some (.int .i64 0)
  i2 : w.cell? ⟨g2, 2, none⟩ = some (.string ⟨#[]⟩)
  i3 : w.cell? ⟨g2, 3, none⟩ = some (.slice an0 0 cn0)
  i4 : w.cell? ⟨g2, 4, none⟩ = some (.slice ai0 0 ci0)
  i5 : w.cell? ⟨g2, 5, none⟩ = some (.int .i64 5)
  i6 : w.cell? ⟨g2, 6, none⟩ = some (.int .i64 0)
  i7 : w.cell? ⟨g2, 7, none⟩ = some (.string ⟨#[]⟩)
  i8 : w.cell? ⟨g2, 8, none⟩ = some (.slice an1 0 cn1)
  i9 : w.cell? ⟨g2, 9, none⟩ = some (.slice ai1 0 ci1)

theorem KV.below {w w' : World} {g1 g2 : Nat} {an0 : Option Addr} {cn0 : Nat} {ai0 : Option Addr} {ci0 : Nat} {an1 : Option Addr} {cn1 : Nat} {ai1 : Option Addr} {ci1 : Nat} (h : KV w g1 g2 an0 cn0 ai0 ci0 an1 cn1 ai1 ci1) {B : Nat} (hb : Below B w w') (h1 : g1 < B) (h2 : g2 < B) :
    KV w' g1 g2 an0 cn0 ai0 ci0 an1 cn1 ai1 ci1 := by
  have c1 : ∀ o, w'.cell? ⟨g1, o, none⟩ = w.cell? ⟨g1, o, none⟩ := fun o => hb.cell (p := ⟨g1, o, none⟩) h1
  have c2 : ∀ o, w'.cell? ⟨g2, o, none⟩ = w.cell? ⟨g2, o, none⟩ := fun o => hb.cell (p := ⟨g2, o, none⟩) h2
  exact ⟨Nat.lt_of_lt_of_le h.l1 hb.size, Nat.lt_of_lt_of_le h.l2 hb.size, (c1 0).trans h.n0, (c1 1).trans h.n1, (c2 0).trans h.i0, (c2 1).trans h.i1, (c2 2).trans h.i2, (c2 3).trans h.i3, (c2 4).trans h.i4, (c2 5).trans h.i5, (c2 6).trans h.i6, (c2 7).trans h.i7, (c2 8).trans h.i8, (c2 9).trans h.i9⟩

/-- The items as they stand inside. -/
def kvals : List Value := [.iface 72 (.int .i64 0), .iface 77 (.slice none 0 0)]

/-- items: a row of the known value's items. -/
def ItemsTwo (w : World) (e : Ending) (w' : World) : Prop :=
  ∃ g c, e = .returned (.tuple #[.slice (some ⟨g, 0, none⟩) 2 c, .bool true]) ∧ Below w.heap.size w w' ∧ w'.ownsRow w.heap.size 44 1 (.slice (some ⟨g, 0, none⟩) 2 c) 2 kvals

set_option maxRecDepth 100000 in
set_option maxHeartbeats 2000000 in
theorem items_two (g1 g2 : Nat) (an0 : Option Addr) (cn0 : Nat) (ai0 : Option Addr) (ci0 : Nat) (an1 : Option Addr) (cn1 : Nat) (ai1 : Option Addr) (ci1 : Nat) (c2 : Nat) (w : World) (h : KV w g1 g2 an0 cn0 ai0 ci0 an1 cn1 ai1 ci1) :
    Calls Tryz.prog 32 #[.slice (some ⟨g2, 0, none⟩) 2 c2] w (ItemsTwo w) := by
  have H := Lib.hid h
  obtain ⟨i0, hi0, hz0, hz1, hz2⟩ := info_parts infoVal
  have HI0 := Lib.hid hi0
  clear h hi0
  go_enter Tryz.func32, Tryz.ntmps32
  go_wp2_with fail
  go_loopg [4, 11] 2 (fun g ov kv wr => Below w.heap.size w wr ∧ ((g = 2 ∧ kv = .int .i64 0 ∧ ov = .slice none 0 0) ∨ (g = 1 ∧ kv = .int .i64 1 ∧ wr.ownsRow w.heap.size 44 1 ov 1 [.iface 72 (.int .i64 0)]) ∨ (g = 0 ∧ kv = .int .i64 2 ∧ wr.ownsRow w.heap.size 44 1 ov 2 kvals)))
  case atStart => exact ⟨Below.refl _ _, .inl ⟨rfl, rfl, rfl⟩⟩
  case round =>
    obtain ⟨hB, hor⟩ := hrel
    have HK := Lib.hid (H.out.below hB H.out.l1 H.out.l2)
    have hl2 := HK.out.l2
    obtain ⟨q0, q1, q2, q3, q4, q5, q6, q7, q8, q9⟩ := show _ ∧ _ ∧ _ ∧ _ ∧ _ ∧ _ ∧ _ ∧ _ ∧ _ ∧ _ from ⟨HK.out.i0, HK.out.i1, HK.out.i2, HK.out.i3, HK.out.i4, HK.out.i5, HK.out.i6, HK.out.i7, HK.out.i8, HK.out.i9⟩
    rcases hor with ⟨hg, rfl, rfl⟩ | ⟨hg, rfl, hO⟩ | ⟨hg, rfl, hO⟩
    · have HG := Lib.hid hg
      clear hg q5 q6 q7 q8 q9
      go_wp2_with fail
      refine (inside_num _ _ _ _ _).mono ?_
      rintro e w2 ⟨rfl, K2⟩
      have HB2 := Lib.hid ((hB.alloc hB.size (.cells #[.int .i64 3, .int .i64 0, .string ⟨#[]⟩, .slice an0 0 cn0, .slice ai0 0 ci0] 26 (0, 0))).trans (K2.mono (Nat.le_trans hB.size (by simp))))
      have HO2 := Lib.hid (World.ownsRow_nil w2 w.heap.size 44 1)
      have hs2 := HB2.out.size
      clear K2
      go_wp2_with (at_builtin; refine wpList_append_lies _ rfl _ _ 74 rfl w.heap.size 44 i0 .nilIface 1 16 Tryz.underlying74 HI0.out hz0 hz1 hz2 rfl (by decide) _ _ _ rfl (HO2.out.alloc _) ⟨w2.heap.size, 0, none⟩ 1 1 [.iface 72 (.int .i64 0)] rfl rfl ?n01 ?n02 Nat.one_pos ?n03 ?n04 ?n05 (w2.heap.size + 1) ?n06 ?_)
      case n01 => exact World.news_of_block (cs := #[.iface 72 (.int .i64 0)]) (t := 44) (fr := (0, 0)) (heap_alloc_new w2 _)
      case n02 => intro u hu; simp at hu; subst hu; rfl
      case n03 => unfold maxLen; omega
      case n04 => omega
      case n05 => simp; omega
      case n06 => simp
      intro gg cap w4 hown hgrow hat _
      have HW4 := Lib.hid hown
      have HG4 := Lib.hid hgrow
      clear hown hgrow hat
      go_wp2_with fail
      go_roundg 1
      case measure => rw [HG.out]; omega
      case rel =>
        refine ⟨(HB2.out.alloc hs2 _).grown HG4.out (by simp; omega) (fun k hk => (HO2.out.lt k hk).1), .inr (.inl ⟨rfl, rfl, HW4.out⟩)⟩
    · obtain ⟨g0, c0, rfl, _, hg0⟩ := hO.form (by omega)
      have HG := Lib.hid hg
      have HO := Lib.hid hO
      clear hg hO q0 q1 q2 q3 q4
      go_wp2_with fail
      refine (inside_list _ _ _ _ _).mono ?_
      rintro e w2 ⟨rfl, K2⟩
      have HB2 := Lib.hid ((hB.alloc hB.size (.cells #[.int .i64 5, .int .i64 0, .string ⟨#[]⟩, .slice an1 0 cn1, .slice ai1 0 ci1] 26 (0, 0))).trans (K2.mono (Nat.le_trans hB.size (by simp))))
      have HO2 := Lib.hid (own_same HO.out (fun b hb => (K2.block b (by simp; have := (HO.out.lt b hb).2; omega)).trans (Below.heap_alloc _ _ _ (HO.out.lt b hb).2)))
      have hs2 := HB2.out.size
      clear K2
      go_wp2_with (at_builtin; refine wpList_append_lies _ rfl _ _ 74 rfl w.heap.size 44 i0 .nilIface 1 16 Tryz.underlying74 HI0.out hz0 hz1 hz2 rfl (by decide) _ _ _ rfl (HO2.out.alloc _) ⟨w2.heap.size, 0, none⟩ 1 1 [.iface 77 (.slice none 0 0)] rfl rfl ?n11 ?n12 Nat.one_pos ?n13 ?n14 ?n15 (w2.heap.size + 1) ?n16 ?_)
      case n11 => exact World.news_of_block (cs := #[.iface 77 (.slice none 0 0)]) (t := 44) (fr := (0, 0)) (heap_alloc_new w2 _)
      case n12 => intro u hu; simp at hu; subst hu; rfl
      case n13 => unfold maxLen; omega
      case n14 => omega
      case n15 => simp; omega
      case n16 => simp
      intro gg cap w4 hown hgrow hat _
      have HW4 := Lib.hid hown
      have HG4 := Lib.hid hgrow
      clear hown hgrow hat
      go_wp2_with fail
      go_roundg 0
      case measure => rw [HG.out]; omega
      case rel =>
        refine ⟨(HB2.out.alloc hs2 _).grown HG4.out (by simp; omega) (fun k hk => (HO2.out.lt k hk).1), .inr (.inr ⟨rfl, rfl, HW4.out⟩)⟩
    · obtain ⟨g0, c0, rfl, _, hg0⟩ := hO.form (by omega)
      have HO := Lib.hid hO
      clear hg hO q0 q1 q2 q3 q4 q5 q6 q7 q8 q9
      go_wp2_with fail
      go_ret2
      exact ⟨g0, c0, rfl, hB, HO.out⟩

end Jot
end Go.Proofs.YthgcnmdnjfajbaaGreatDoor

namespace Go.Proofs.YthgcnmdnjfajbaaGreatDoor
open Go.RowKit
namespace Jot

theorem own_lower {w : World} {B B' : Nat} {e : TypeId} {size : Nat} {v : Value} {n : Nat} {xs : List Value} (h : w.ownsRow B e size v n xs) (hB : B' ≤ B) : w.ownsRow B' e size v n xs := by
  refine ⟨h.1, ?_⟩
  rcases h.2 with h2 | ⟨g, cap, cur, hv, hg, r⟩
  · exact .inl h2
  · exact .inr ⟨g, cap, cur, hv, Nat.le_trans hB hg, r⟩

/-- The members as they stand inside. -/
def kmems : List Value := [.string ⟨#[97]⟩, .iface 72 (.int .i64 0), .string ⟨#[98]⟩, .iface 77 (.slice none 0 0)]

/-- insideObject: a row of the known value's members. -/
def ObjTwo (w : World) (e : Ending) (w' : World) : Prop :=
  ∃ g c, e = .returned (.tuple #[.iface 79 (.slice (some ⟨g, 0, none⟩) 2 c), .bool true]) ∧ Below w.heap.size w w' ∧ w'.ownsRow w.heap.size 81 2 (.slice (some ⟨g, 0, none⟩) 2 c) 2 kmems

set_option maxRecDepth 100000 in
set_option maxHeartbeats 4000000 in
theorem insideObject_k (g1 g2 : Nat) (an0 : Option Addr) (cn0 : Nat) (ai0 : Option Addr) (ci0 : Nat) (an1 : Option Addr) (cn1 : Nat) (ai1 : Option Addr) (ci1 : Nat) (c1 c2 : Nat) (w : World) (h : KV w g1 g2 an0 cn0 ai0 ci0 an1 cn1 ai1 ci1) :
    Calls Tryz.prog 33 #[.agg #[.int .i64 6, .int .i64 0, .string ⟨#[]⟩, .slice (some ⟨g1, 0, none⟩) 2 c1, .slice (some ⟨g2, 0, none⟩) 2 c2]] w (ObjTwo w) := by
  have H := Lib.hid h
  obtain ⟨i0, hi0, hz0, hz1, hz2⟩ := info_parts infoMem
  have HI0 := Lib.hid hi0
  clear h hi0
  go_enter Tryz.func33, Tryz.ntmps33
  go_wp2_with fail
  have HX := Lib.hid (heap_alloc_new w (.cells #[.int .i64 6, .int .i64 0, .string ⟨#[]⟩, .slice (some ⟨g1, 0, none⟩) 2 c1, .slice (some ⟨g2, 0, none⟩) 2 c2] 26 (0, 0)))
  have HB := Lib.hid ((Below.refl w.heap.size w).alloc (Nat.le_refl _) (.cells #[.int .i64 6, .int .i64 0, .string ⟨#[]⟩, .slice (some ⟨g1, 0, none⟩) 2 c1, .slice (some ⟨g2, 0, none⟩) 2 c2] 26 (0, 0)))
  generalize w.alloc (.cells #[.int .i64 6, .int .i64 0, .string ⟨#[]⟩, .slice (some ⟨g1, 0, none⟩) 2 c1, .slice (some ⟨g2, 0, none⟩) 2 c2] 26 (0, 0)) = wa at *
  have hlt := (Array.getElem?_eq_some_iff.1 HX.out).1
  have hsz := HB.out.size
  refine (items_two g1 g2 an0 cn0 ai0 ci0 an1 cn1 ai1 ci1 c2 _ (by exact H.out.below HB.out H.out.l1 H.out.l2)).mono ?_
  rintro e w2 ⟨g, c, rfl, K2, hO⟩
  have HX2 := Lib.hid ((K2.block _ hlt).trans HX.out)
  have HB2 := Lib.hid (HB.out.trans (K2.mono hsz))
  have HO2 := Lib.hid hO
  have hs2 := K2.size
  obtain ⟨x0, x1, x2, x3, x4⟩ := five_cells' HX2.out
  clear K2 hO
  go_wp2_with fail
  refine (bare_obj _ _ _ _ _).mono ?_
  rintro e w3 ⟨rfl, K3⟩
  have HX3 := Lib.hid ((K3.block _ (Nat.lt_of_lt_of_le hlt hs2)).trans HX2.out)
  have HB3 := Lib.hid (HB2.out.trans (K3.mono HB2.out.size))
  have HO3 := Lib.hid (own_same HO2.out (fun b hb => K3.block b (HO2.out.lt b hb).2))
  have hs3 := K3.size
  clear K3 x0 x1 x2 x3 x4
  obtain ⟨x0, x1, x2, x3, x4⟩ := five_cells' HX3.out
  have hgw : wa.heap.size ≤ g := (HO3.out.lt g rfl).1
  have hgl : g < w3.heap.size := (HO3.out.lt g rfl).2
  go_wp2_with fail
  go_loopg [6, 36] 2 (fun q ov kv wr => Below w3.heap.size w3 wr ∧ ((q = 2 ∧ kv = .int .i64 0 ∧ ov = .slice none 0 0) ∨ (q = 1 ∧ kv = .int .i64 1 ∧ wr.ownsRow w3.heap.size 81 2 ov 1 [.string ⟨#[97]⟩, .iface 72 (.int .i64 0)]) ∨ (q = 0 ∧ kv = .int .i64 2 ∧ wr.ownsRow w3.heap.size 81 2 ov 2 kmems)))
  case atStart => exact ⟨Below.refl _ _, .inl ⟨rfl, rfl, rfl⟩⟩
  case round =>
    obtain ⟨hB, hor⟩ := hrel
    have HBr := Lib.hid hB
    have HKr := Lib.hid (H.out.below (HB3.out.trans (hB.mono (Nat.le_trans hsz (Nat.le_trans hs2 hs3)))) H.out.l1 H.out.l2)
    have n0 := HKr.out.n0
    have n1 := HKr.out.n1
    have y3 := (hB.cell (p := ⟨w.heap.size, 3, none⟩) (Nat.lt_of_lt_of_le hlt (Nat.le_trans hs2 hs3))).trans x3
    have cells : ∀ (k : Nat) (u : Value), kvals[k]? = some u → wr.cell? ⟨g, k, none⟩ = some u := fun k u hu => by
      have h3 := World.ownsRow.cells (g := g) HO3.out rfl k u hu
      rw [Addr.add_lit, Nat.zero_add] at h3
      exact (hB.cell (p := ⟨g, k, none⟩) hgl).trans h3
    have l0 := cells 0 _ rfl
    have l1 := cells 1 _ rfl
    have hsr := hB.size
    have hbl : Op.bytesLess [97] [98] = true := by decide
    clear hB cells x0 x1 x2 x3 x4
    rcases hor with ⟨hg, rfl, rfl⟩ | ⟨hg, rfl, hO⟩ | ⟨hg, rfl, hO⟩
    · have HG := Lib.hid hg
      clear hg
      go_wp2_with fail
      refine (valid_97 _).mono ?_
      rintro e w4 ⟨rfl, rfl⟩
      go_wp2_with (at_builtin; refine wpList_append_lies _ rfl _ _ 79 rfl w3.heap.size 81 i0 _ 2 32 Tryz.underlying79 HI0.out hz0 hz1 hz2 rfl (by decide) _ _ _ rfl (World.ownsRow_nil _ w3.heap.size 81 2) ⟨w4.heap.size, 0, none⟩ 1 1 [.string ⟨#[97]⟩, .iface 72 (.int .i64 0)] rfl rfl ?n01 ?n02 Nat.one_pos ?n03 ?n04 ?n05 (w4.heap.size + 1) ?n06 ?_)
      case n01 => exact World.news_of_block (cs := #[.string ⟨#[97]⟩, .iface 72 (.int .i64 0)]) (t := 81) (fr := (0, 0)) (heap_alloc_new w4 _)
      case n02 => intro u hu; simp at hu; rcases hu with rfl | rfl <;> rfl
      case n03 => unfold maxLen; omega
      case n04 => omega
      case n05 => simp; omega
      case n06 => simp
      intro gg cap w5 hown hgrow hat _
      have HW5 := Lib.hid hown
      have HG5 := Lib.hid hgrow
      clear hown hgrow hat
      go_wp2_with fail
      go_roundg 1
      case measure => rw [HG.out]; omega
      case rel =>
        refine ⟨(HBr.out.alloc hsr _).grown HG5.out (by simp; omega) (fun k hk => by simp [Value.ownBlock] at hk), .inr (.inl ⟨rfl, rfl, HW5.out⟩)⟩
    · obtain ⟨g0, c0, rfl, _, hg0⟩ := hO.form (by omega)
      have HG := Lib.hid hg
      have HO := Lib.hid hO
      clear hg hO
      go_wp2_with fail
      refine (valid_98 _).mono ?_
      rintro e w4 ⟨rfl, rfl⟩
      go_wp2_with (at_builtin; refine wpList_append_lies _ rfl _ _ 79 rfl w3.heap.size 81 i0 _ 2 32 Tryz.underlying79 HI0.out hz0 hz1 hz2 rfl (by decide) _ _ _ rfl (HO.out.alloc _) ⟨w4.heap.size, 0, none⟩ 1 1 [.string ⟨#[98]⟩, .iface 77 (.slice none 0 0)] rfl rfl ?n11 ?n12 Nat.one_pos ?n13 ?n14 ?n15 (w4.heap.size + 1) ?n16 ?_)
      case n11 => exact World.news_of_block (cs := #[.string ⟨#[98]⟩, .iface 77 (.slice none 0 0)]) (t := 81) (fr := (0, 0)) (heap_alloc_new w4 _)
      case n12 => intro u hu; simp at hu; rcases hu with rfl | rfl <;> rfl
      case n13 => unfold maxLen; omega
      case n14 => omega
      case n15 => simp; omega
      case n16 => simp
      intro gg cap w5 hown hgrow hat _
      have HW5 := Lib.hid hown
      have HG5 := Lib.hid hgrow
      clear hown hgrow hat
      go_wp2_with fail
      go_roundg 0
      case measure => rw [HG.out]; omega
      case rel =>
        refine ⟨(HBr.out.alloc hsr _).grown HG5.out (by simp; omega) (fun k hk => (HO.out.lt k hk).1), .inr (.inr ⟨rfl, rfl, HW5.out⟩)⟩
    · obtain ⟨g0, c0, rfl, _, hg0⟩ := hO.form (by omega)
      have HO := Lib.hid hO
      clear hg hO
      go_wp2_with fail
      go_ret2
      refine ⟨g0, c0, rfl, HB3.out.trans (HBr.out.mono (Nat.le_trans hsz (Nat.le_trans hs2 hs3))), own_lower HO.out (Nat.le_trans hsz (Nat.le_trans hs2 hs3))⟩

set_option maxRecDepth 100000 in
set_option maxHeartbeats 1000000 in
theorem inside_k (g1 g2 : Nat) (an0 : Option Addr) (cn0 : Nat) (ai0 : Option Addr) (ci0 : Nat) (an1 : Option Addr) (cn1 : Nat) (ai1 : Option Addr) (ci1 : Nat) (c1 c2 : Nat) (w : World) (h : KV w g1 g2 an0 cn0 ai0 ci0 an1 cn1 ai1 ci1) :
    Calls Tryz.prog 15 #[.agg #[.int .i64 6, .int .i64 0, .string ⟨#[]⟩, .slice (some ⟨g1, 0, none⟩) 2 c1, .slice (some ⟨g2, 0, none⟩) 2 c2]] w (ObjTwo w) := by
  have H := Lib.hid h
  clear h
  go_enter Tryz.func15, Tryz.ntmps15
  go_wp2_with fail
  have HB := Lib.hid ((Below.refl w.heap.size w).alloc (Nat.le_refl _) (.cells #[.int .i64 6, .int .i64 0, .string ⟨#[]⟩, .slice (some ⟨g1, 0, none⟩) 2 c1, .slice (some ⟨g2, 0, none⟩) 2 c2] 26 (0, 0)))
  generalize w.alloc (.cells #[.int .i64 6, .int .i64 0, .string ⟨#[]⟩, .slice (some ⟨g1, 0, none⟩) 2 c1, .slice (some ⟨g2, 0, none⟩) 2 c2] 26 (0, 0)) = wa at *
  refine (insideObject_k g1 g2 an0 cn0 ai0 ci0 an1 cn1 ai1 ci1 c1 c2 _ (by exact H.out.below HB.out H.out.l1 H.out.l2)).mono ?_
  rintro e w2 ⟨g, c, rfl, K2, hO⟩
  have HO := Lib.hid hO
  clear hO
  go_wp2_with fail
  go_ret2
  exact ⟨g, c, rfl, HB.out.trans (K2.mono HB.out.size), own_lower HO.out HB.out.size⟩

end Jot
end Go.Proofs.YthgcnmdnjfajbaaGreatDoor
