/- Walks of package jot at the known value: own, Get, Same. Conditions: the known value. -/
/- Parse at the known texts. Conditions: none. -/
import Derived.Test.YthgcnmdnjfajbaaGreatDoorPrE
import Derived.Test.YthgcnmdnjfajbaaGreatDoorRefM
import Derived.Test.YthgcnmdnjfajbaaGreatDoorJotParse
namespace Go.Proofs.YthgcnmdnjfajbaaGreatDoor
open Go.RowKit
namespace Jot

theorem belowSet1 {B : Nat} {w w3 : World} (h : Below B w w3) {b : Nat} (hb : B ≤ b) (o : Nat) (u : Value) : Below B w (w3.setCell ⟨b, o, none⟩ u) := h.setCell (p := ⟨b, o, none⟩) hb u
theorem belowSet5 {w w3 : World} (h : Below w.heap.size w w3) (u0 u1 u2 u3 u4 : Value) (_ : True) : Below w.heap.size w (setFive w3 (w.heap.size + 1) u0 u1 u2 u3 u4) :=
  belowSet1 (belowSet1 (belowSet1 (belowSet1 (belowSet1 h (Nat.le_succ _) 0 u0) (Nat.le_succ _) 1 u1) (Nat.le_succ _) 2 u2) (Nat.le_succ _) 3 u3) (Nat.le_succ _) 4 u4

/-- A number without names and items, of the caller's own. -/
def OwnNum (w : World) (e : Ending) (w' : World) : Prop :=
  ∃ a c, e = .returned (.agg #[.int .i64 3, .int .i64 0, .string ⟨#[]⟩, .slice a 0 c, .slice none 0 0]) ∧ Below w.heap.size w w'

set_option maxRecDepth 100000 in
set_option maxHeartbeats 1000000 in
theorem own_num (an : Option Addr) (cn : Nat) (ai : Option Addr) (ci : Nat) (w : World) :
    Calls Tryz.prog 20 #[.agg #[.int .i64 3, .int .i64 0, .string ⟨#[]⟩, .slice an 0 cn, .slice ai 0 ci]] w (OwnNum w) := by
  obtain ⟨i1, hi1, hy0, hy1, hy2⟩ := info_parts infoStr
  have HI1 := Lib.hid hi1
  have HN : Hid (∀ (w' : World) (a : Addr), an = some a → ∀ j u, ([] : List Value)[j]? = some u → w'.cell? (a.add j) = some u) := fun w' a ha j u hu => by simp at hu
  clear hi1
  go_enter Tryz.func20, Tryz.ntmps20
  go_wp2_with (at_builtin; refine wpList_append_any _ rfl _ _ 23 rfl w.heap.size 9 i1 (.string ⟨#[]⟩) 1 16 Tryz.underlying23 HI1.out hy0 hy1 hy2 rfl (by decide) (.slice none 0 0) 0 [] rfl (World.ownsRow_nil _ _ _ _) an 0 cn [] rfl rfl (fun _ => rfl) (HN.out _) (fun u hu => by simp at hu) 0 rfl (by unfold maxLen; omega) (by omega) ?b1 ?_)
  case b1 => simp; omega
  intro a' c' w3 hown hgr hat
  have blk : ∀ k, k < w.heap.size + 3 → w3.heap[k]? = _ := fun k hk => hgr.block k (by simp; omega) (by simp [Value.ownBlock])
  have b0 : w3.heap[w.heap.size]? = some (.cells #[.int .i64 3, .int .i64 0, .string ⟨#[]⟩, .slice an 0 cn, .slice ai 0 ci] 26 (0, 0)) := by
    rw [blk _ (by omega), Below.heap_alloc _ _ _ (by simp; omega), Below.heap_alloc _ _ _ (by simp)]; exact heap_alloc_new _ _
  have b1 : w3.heap[w.heap.size + 1]? = some (.cells #[.int .i64 0, .int .i64 0, .string ⟨#[]⟩, .slice none 0 0, .slice none 0 0] 26 (0, 0)) := by
    rw [blk _ (by omega), Below.heap_alloc _ _ _ (by simp)]; exact heap_alloc_at _ _ (by simp)
  have b2 : w3.heap[w.heap.size + 1 + 1]? = some (.cells #[.int .i64 3, .int .i64 0, .string ⟨#[]⟩, .slice none 0 0, .slice none 0 0] 26 (0, 0)) := by
    rw [blk _ (by omega)]; exact heap_alloc_at _ _ (by simp)
  have HB3 : Hid (Below w.heap.size w w3) := ((((Below.refl _ _).alloc (Nat.le_refl _) _).alloc (by simp) _).alloc (by simp; omega) _).grown hgr (by simp; omega) (fun k hk => by simp [Value.ownBlock] at hk)
  clear hown hgr hat blk
  obtain ⟨x0, x1, x2, x3, x4⟩ := five_cells' b0
  obtain ⟨y0, y1, y2, y3, y4⟩ := five_cells' b1
  obtain ⟨z0, z1, z2, z3, z4⟩ := five_cells' b2
  have fy : ∀ o, w3.frozen? ⟨w.heap.size + 1, o, none⟩ = false := fun o => Lib.frozen_of_heap b1 o
  have fz : ∀ o, w3.frozen? ⟨w.heap.size + 1 + 1, o, none⟩ = false := fun o => Lib.frozen_of_heap b2 o
  have fy0 := fy 0
  have fy1 := fy 1
  have fy2 := fy 2
  have fy3 := fy 3
  have fy4 := fy 4
  have fz3 := fz 3
  clear b0 b1 b2 fy fz
  go_wp2_with fail
  go_loopg [22] 1 (fun g kv wr => kv = .int .i64 0 ∧ wr = w3.setCell ⟨w.heap.size + 1 + 1, 3, none⟩ (.slice a' 0 c'))
  case atStart => exact ⟨rfl, rfl⟩
  case round =>
    obtain ⟨rfl, rfl⟩ := hrel
    go_wp2_with fail
    refine bodyPost_ret (by simp [results, Tryz.results20, go_sem, y0, y1, y2, y3, y4]; try rfl) rfl ?_
    refine ⟨a', c', rfl, ?_⟩
    exact belowSet5 (belowSet1 (b := w.heap.size + 1 + 1) HB3.out (by omega) 3 (.slice a' 0 c')) (.int .i64 3) (.int .i64 0) (.string ⟨#[]⟩) (.slice a' 0 c') (.slice none 0 0) trivial

/-- Get: the number, of the caller's own. -/
def GotNum (w : World) (e : Ending) (w' : World) : Prop :=
  ∃ a c, e = .returned (.tuple #[.agg #[.int .i64 3, .int .i64 0, .string ⟨#[]⟩, .slice a 0 c, .slice none 0 0], .bool true]) ∧ Below w.heap.size w w'

set_option maxRecDepth 100000 in
set_option maxHeartbeats 1000000 in
theorem get_k (g1 g2 : Nat) (an0 : Option Addr) (cn0 : Nat) (ai0 : Option Addr) (ci0 : Nat) (an1 : Option Addr) (cn1 : Nat) (ai1 : Option Addr) (ci1 : Nat) (c1 c2 : Nat) (w : World) (h : KV w g1 g2 an0 cn0 ai0 ci0 an1 cn1 ai1 ci1) :
    Calls Tryz.prog 8 #[.agg #[.int .i64 6, .int .i64 0, .string ⟨#[]⟩, .slice (some ⟨g1, 0, none⟩) 2 c1, .slice (some ⟨g2, 0, none⟩) 2 c2], .string ⟨#[97]⟩] w (GotNum w) := by
  have H := Lib.hid h
  clear h
  go_enter Tryz.func8, Tryz.ntmps8
  go_wp2_with fail
  obtain ⟨X, hX⟩ : ∃ X, X = (w.alloc (.cells #[.int .i64 6, .int .i64 0, .string ⟨#[]⟩, .slice (some ⟨g1, 0, none⟩) 2 c1, .slice (some ⟨g2, 0, none⟩) 2 c2] 26 (0, 0))).alloc (.cells #[.int .i64 0, .int .i64 0, .string ⟨#[]⟩, .slice none 0 0, .slice none 0 0] 26 (0, 0)) := ⟨_, rfl⟩
  have HB := Lib.hid (show Below w.heap.size w X by rw [hX]; exact ((Below.refl _ _).alloc (Nat.le_refl _) _).alloc (by simp) _)
  have b0 : X.heap[w.heap.size]? = some (.cells #[.int .i64 6, .int .i64 0, .string ⟨#[]⟩, .slice (some ⟨g1, 0, none⟩) 2 c1, .slice (some ⟨g2, 0, none⟩) 2 c2] 26 (0, 0)) := by
    rw [hX, Below.heap_alloc _ _ _ (by simp)]; exact heap_alloc_new _ _
  have b1 : X.heap[w.heap.size + 1]? = some (.cells #[.int .i64 0, .int .i64 0, .string ⟨#[]⟩, .slice none 0 0, .slice none 0 0] 26 (0, 0)) := by
    rw [hX]; exact heap_alloc_at _ _ (by simp)
  have hsz : X.heap.size = w.heap.size + 2 := by rw [hX]; simp
  have HSZ := Lib.hid hsz
  rw [← hX]
  clear hX hsz
  have HK := Lib.hid (H.out.below HB.out H.out.l1 H.out.l2)
  obtain ⟨x0, x1, x2, x3, x4⟩ := five_cells' b0
  have HB1 := Lib.hid b1
  have n0 := HK.out.n0
  obtain ⟨q0, q1, q2, q3, q4⟩ := show _ ∧ _ ∧ _ ∧ _ ∧ _ from ⟨HK.out.i0, HK.out.i1, HK.out.i2, HK.out.i3, HK.out.i4⟩
  clear b0 b1
  go_loopg [15] 1 (fun g kv wr => kv = .int .i64 0 ∧ wr = X)
  case atStart => exact ⟨rfl, rfl⟩
  case round =>
    obtain ⟨rfl, rfl⟩ := hrel
    go_wp2_with fail
    refine (own_num _ _ _ _ _).mono ?_
    rintro e w3 ⟨a, c, rfl, K3⟩
    have b1 := (K3.block (w.heap.size + 1) (by rw [HSZ.out]; omega)).trans HB1.out
    have HB3 := Lib.hid (HB.out.trans (K3.mono HB.out.size))
    obtain ⟨y0, y1, y2, y3, y4⟩ := five_cells' b1
    have fy : ∀ o, w3.frozen? ⟨w.heap.size + 1, o, none⟩ = false := fun o => Lib.frozen_of_heap b1 o
    have fy0 := fy 0
    have fy1 := fy 1
    have fy2 := fy 2
    have fy3 := fy 3
    have fy4 := fy 4
    clear b1 fy K3
    go_wp2_with fail
    refine bodyPost_ret (by simp [results, Tryz.results8, go_sem, y0, y1, y2, y3, y4]; try rfl) rfl ?_
    refine ⟨a, c, rfl, ?_⟩
    exact belowSet5 HB3.out (.int .i64 3) (.int .i64 0) (.string ⟨#[]⟩) (.slice a 0 c) (.slice none 0 0) trivial

set_option maxRecDepth 100000 in
set_option maxHeartbeats 1000000 in
theorem same_no (a : Option Addr) (c c1 c2 g1 g2 : Nat) (w : World) :
    Calls Tryz.prog 9 #[.agg #[.int .i64 3, .int .i64 0, .string ⟨#[]⟩, .slice a 0 c, .slice none 0 0], .agg #[.int .i64 6, .int .i64 0, .string ⟨#[]⟩, .slice (some ⟨g1, 0, none⟩) 2 c1, .slice (some ⟨g2, 0, none⟩) 2 c2]] w (Made (.bool false) w) := by
  go_enter Tryz.func9, Tryz.ntmps9
  go_wp2_with fail
  go_ret
  exact ⟨rfl, ((Below.refl _ _).alloc (Nat.le_refl _) _).alloc (by simp) _⟩

set_option maxRecDepth 100000 in
set_option maxHeartbeats 1000000 in
theorem same_yes (a : Option Addr) (c : Nat) (an : Option Addr) (cn : Nat) (ai : Option Addr) (ci : Nat) (w : World) :
    Calls Tryz.prog 9 #[.agg #[.int .i64 3, .int .i64 0, .string ⟨#[]⟩, .slice a 0 c, .slice none 0 0], .agg #[.int .i64 3, .int .i64 0, .string ⟨#[]⟩, .slice an 0 cn, .slice ai 0 ci]] w (Made (.bool true) w) := by
  go_enter Tryz.func9, Tryz.ntmps9
  go_wp2_with fail
  go_loopg [47] 1 (fun g kv wr => kv = .int .i64 0 ∧ wr = (w.alloc (.cells #[.int .i64 3, .int .i64 0, .string ⟨#[]⟩, .slice a 0 c, .slice none 0 0] 26 (0, 0))).alloc (.cells #[.int .i64 3, .int .i64 0, .string ⟨#[]⟩, .slice an 0 cn, .slice ai 0 ci] 26 (0, 0)))
  case atStart => exact ⟨rfl, rfl⟩
  case round =>
    obtain ⟨rfl, rfl⟩ := hrel
    go_wp2_with fail
    go_loopg [65] 1 (fun g kv wr => kv = .int .i64 0 ∧ wr = (w.alloc (.cells #[.int .i64 3, .int .i64 0, .string ⟨#[]⟩, .slice a 0 c, .slice none 0 0] 26 (0, 0))).alloc (.cells #[.int .i64 3, .int .i64 0, .string ⟨#[]⟩, .slice an 0 cn, .slice ai 0 ci] 26 (0, 0)))
    case atStart => exact ⟨rfl, rfl⟩
    case round =>
      obtain ⟨rfl, rfl⟩ := hrel
      go_wp2_with fail
      go_ret
      exact ⟨rfl, ((Below.refl _ _).alloc (Nat.le_refl _) _).alloc (by simp) _⟩

end Jot
end Go.Proofs.YthgcnmdnjfajbaaGreatDoor

namespace Go.Proofs.YthgcnmdnjfajbaaGreatDoor
open Go.RowKit
namespace Jot

/-- The known texts. -/
def ktxt1 : Bs := [123, 32, 34, 98, 34, 32, 58, 32, 91, 32, 93, 32, 44, 32, 34, 97, 34, 32, 58, 32, 45, 48, 32, 125]
def ktxt2 : Bs := [91, 49, 44, 93]

theorem parse_kt1 : parse ktxt1 = (.obj [([97], .num 0), ([98], .list [])], 0, 0) := by rfl
theorem parse_kt2 : parse ktxt2 = (.null, 40, 3) := by rfl

theorem KeptB.below {B : Nat} {w w' : World} (h : KeptB B B w w') : Below B w w' := ⟨h.os, h.tape, h.output, h.size, fun k hk => h.block k hk (by omega)⟩
theorem below_kept {B : Nat} {w w' : World} (h : Below B w w') : KeptB B B w w' := ⟨h.os, h.tape, h.output, h.size, fun k hk _ => h.block k hk⟩

/-- Parse of the first known text. -/
def ParseK (w : World) (e : Ending) (w' : World) : Prop :=
  ∃ (g1 c1 g2 c2 : Nat) (an0 : Option Addr) (cn0 : Nat) (ai0 : Option Addr) (ci0 : Nat) (an1 : Option Addr) (cn1 : Nat) (ai1 : Option Addr) (ci1 : Nat),
    e = .returned (.tuple #[.agg #[.int .i64 6, .int .i64 0, .string ⟨#[]⟩, .slice (some ⟨g1, 0, none⟩) 2 c1, .slice (some ⟨g2, 0, none⟩) 2 c2], .int .i64 0, .int .i64 0]) ∧ Below w.heap.size w w' ∧ KV w' g1 g2 an0 cn0 ai0 ci0 an1 cn1 ai1 ci1

theorem row_cells {w : World} {P : Nat → Prop} {e : TypeId} {size : Nat} {a : Option Addr} {n c : Nat} {xs : List Value} (h : Row w P e size (.slice a n c) n xs) (hn : 0 < n) : ∃ g, a = some ⟨g, 0, none⟩ ∧ g < w.heap.size ∧ ∀ k u, xs[k]? = some u → w.cell? ⟨g, k, none⟩ = some u := by
  obtain ⟨g, cap, hs, _, hlt⟩ := h.1.form hn
  cases hs
  refine ⟨g, rfl, hlt, fun k u hu => ?_⟩
  have h3 := World.ownsRow.cells (g := g) h.1 rfl k u hu
  rwa [Addr.add_lit, Nat.zero_add] at h3

theorem parse_k (w : World) : Calls Tryz.prog 5 #[.string ⟨ktxt1.toArray⟩] w (ParseK w) := by
  refine (parse_any ⟨ktxt1.toArray⟩ w).mono ?_
  rintro e w' ⟨k, n, t, an, ln, cn, ai, li, ci, rfl, hk, hj⟩
  have hp : parse (L ⟨ktxt1.toArray⟩) = (.obj [([97], .num 0), ([98], .list [])], 0, 0) := parse_kt1
  rw [hp] at hj ⊢
  obtain ⟨an', cn', ai', ci', vs, hv, h1, h2, h3⟩ := hj
  cases hv
  obtain ⟨g1, rfl, hg1, hc1⟩ := row_cells h1 (by decide)
  obtain ⟨g2, rfl, hg2, hc2⟩ := row_cells h2 (by decide)
  obtain ⟨a0, a1, a2, a3, a4, r0, rfl, hj0, b0, b1, b2, b3, b4, r1, rfl, hj1, rfl⟩ := h3
  obtain ⟨x1, x2, x3, x4, xs, hx, _⟩ := hj0
  obtain ⟨y1, y2, y3, y4, ys, hy, _⟩ := hj1
  cases hx
  cases hy
  exact ⟨g1, cn, g2, ci, x1, x2, x3, x4, y1, y2, y3, y4, rfl, hk.below, hg1, hg2, hc1 0 _ rfl, hc1 1 _ rfl, hc2 0 _ rfl, hc2 1 _ rfl, hc2 2 _ rfl, hc2 3 _ rfl, hc2 4 _ rfl, hc2 5 _ rfl, hc2 6 _ rfl, hc2 7 _ rfl, hc2 8 _ rfl, hc2 9 _ rfl⟩

/-- Parse of the second known text. -/
def ParseK2 (w : World) (e : Ending) (w' : World) : Prop :=
  ∃ (k n : Int) (t : Bs) (an : Option Addr) (ln cn : Nat) (ai : Option Addr) (li ci : Nat), e = .returned (.tuple #[.agg #[.int .i64 k, .int .i64 n, str t, .slice an ln cn, .slice ai li ci], .int .i64 40, .int .i64 3]) ∧ Below w.heap.size w w'

theorem parse_k2 (w : World) : Calls Tryz.prog 5 #[.string ⟨ktxt2.toArray⟩] w (ParseK2 w) := by
  refine (parse_any ⟨ktxt2.toArray⟩ w).mono ?_
  rintro e w' ⟨k, n, t, an, ln, cn, ai, li, ci, rfl, hk, hj⟩
  have hp : parse (L ⟨ktxt2.toArray⟩) = (.null, 40, 3) := parse_kt2
  rw [hp]
  exact ⟨k, n, t, an, ln, cn, ai, li, ci, rfl, hk.below⟩

end Jot
end Go.Proofs.YthgcnmdnjfajbaaGreatDoor
