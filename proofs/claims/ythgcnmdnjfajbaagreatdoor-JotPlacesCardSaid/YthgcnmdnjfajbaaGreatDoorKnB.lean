/- Walk of the law's known: the document's examples are met. Conditions: none. -/
/- Plain law of JotPlaces: what Parse answers at a text, at what is right of it, and at what goes on behind its place. Conditions: none. -/
import Derived.Test.YthgcnmdnjfajbaaGreatDoorPrG
import Derived.Test.YthgcnmdnjfajbaaGreatDoorRefR
namespace Go.Proofs.YthgcnmdnjfajbaaGreatDoor
open Go.RowKit
namespace Jot

theorem box_below {w w' : World} {b : Nat} {o : Obj} (h : w.heap[b]? = some o) {B : Nat} (hb : Below B w w') (hlt : b < B) : w'.heap[b]? = some o := (hb.block b hlt).trans h

set_option maxRecDepth 100000 in
set_option maxHeartbeats 4000000 in
theorem known_any (w : World) : Calls Tryz.prog 4 #[] w (Made (.bool true) w) := by
  go_enter Tryz.func4, Tryz.ntmps4
  go_wp2_with fail
  refine (parse_k _).mono ?_
  rintro e w1 ⟨g1, c1, g2, c2, an0, cn0, ai0, ci0, an1, cn1, ai1, ci1, rfl, K1, hK⟩
  have HX1 := Lib.hid (heap_alloc_new w1 (.cells #[.int .i64 6, .int .i64 0, .string ⟨#[]⟩, .slice (some ⟨g1, 0, none⟩) 2 c1, .slice (some ⟨g2, 0, none⟩) 2 c2] 26 (0, 0)))
  have HK1 := Lib.hid hK
  have HB1 := Lib.hid (K1.alloc K1.size (.cells #[.int .i64 6, .int .i64 0, .string ⟨#[]⟩, .slice (some ⟨g1, 0, none⟩) 2 c1, .slice (some ⟨g2, 0, none⟩) 2 c2] 26 (0, 0)))
  have HKX := Lib.hid (hK.below ((Below.refl w1.heap.size w1).alloc (Nat.le_refl _) (.cells #[.int .i64 6, .int .i64 0, .string ⟨#[]⟩, .slice (some ⟨g1, 0, none⟩) 2 c1, .slice (some ⟨g2, 0, none⟩) 2 c2] 26 (0, 0))) hK.l1 hK.l2)
  have hg1 := hK.l1
  have hg2 := hK.l2
  have n0 := HKX.out.n0
  have i0 := HKX.out.i0
  have i5 := HKX.out.i5
  clear K1 hK
  go_wp2_with fail
  have hx1 : w1.heap.size < (w1.alloc (.cells #[.int .i64 6, .int .i64 0, .string ⟨#[]⟩, .slice (some ⟨g1, 0, none⟩) 2 c1, .slice (some ⟨g2, 0, none⟩) 2 c2] 26 (0, 0))).heap.size := by simp
  generalize w1.alloc (.cells #[.int .i64 6, .int .i64 0, .string ⟨#[]⟩, .slice (some ⟨g1, 0, none⟩) 2 c1, .slice (some ⟨g2, 0, none⟩) 2 c2] 26 (0, 0)) = W1 at *
  generalize w1.heap.size = bx at *
  clear n0 i0 i5
  refine (print_k g1 g2 an0 cn0 ai0 ci0 an1 cn1 ai1 ci1 c1 c2 W1 HKX.out).mono ?_
  rintro e w2 ⟨rfl, K2⟩
  have HX2 := Lib.hid (box_below HX1.out K2 hx1)
  have HK2 := Lib.hid (HKX.out.below K2 HKX.out.l1 HKX.out.l2)
  have HB2 := Lib.hid (HB1.out.trans (K2.mono HB1.out.size))
  have hs2 := K2.size
  obtain ⟨x0, x1, x2, x3, x4⟩ := five_cells' HX2.out
  clear K2
  unfold ktext
  go_wp2_with fail
  refine (get_k g1 g2 an0 cn0 ai0 ci0 an1 cn1 ai1 ci1 c1 c2 w2 HK2.out).mono ?_
  rintro e w3 ⟨a, c, rfl, K3⟩
  have HX3 := Lib.hid (box_below HX2.out K3 (by omega))
  have HK3 := Lib.hid (HK2.out.below K3 HK2.out.l1 HK2.out.l2)
  have HB3 := Lib.hid (HB2.out.trans (K3.mono HB2.out.size))
  have hs3 := K3.size
  clear K3 x0 x1 x2 x3 x4
  go_wp2_with fail
  have HY3 := Lib.hid (heap_alloc_new w3 (.cells #[.int .i64 3, .int .i64 0, .string ⟨#[]⟩, .slice a 0 c, .slice none 0 0] 26 (0, 0)))
  have K3' := (Below.refl w3.heap.size w3).alloc (Nat.le_refl _) (.cells #[.int .i64 3, .int .i64 0, .string ⟨#[]⟩, .slice a 0 c, .slice none 0 0] 26 (0, 0))
  have HX4 := Lib.hid (box_below HX3.out K3' (by omega))
  have HK4 := Lib.hid (HK3.out.below K3' HK3.out.l1 HK3.out.l2)
  have HB4 := Lib.hid (HB3.out.trans (K3'.mono HB3.out.size))
  have hs4 : w3.heap.size < (w3.alloc (.cells #[.int .i64 3, .int .i64 0, .string ⟨#[]⟩, .slice a 0 c, .slice none 0 0] 26 (0, 0))).heap.size := by simp
  clear K3'
  generalize w3.alloc (.cells #[.int .i64 3, .int .i64 0, .string ⟨#[]⟩, .slice a 0 c, .slice none 0 0] 26 (0, 0)) = W4 at *
  refine (parse_k2 W4).mono ?_
  rintro e w5 ⟨k, n, t, an, ln, cn, ai, li, ci, rfl, K5⟩
  have K5' := K5.alloc K5.size (.cells #[.int .i64 k, .int .i64 n, .string ⟨t.toArray⟩, .slice an ln cn, .slice ai li ci] 26 (0, 0))
  have HX6 := Lib.hid (box_below HX4.out K5' (by omega))
  have HY6 := Lib.hid (box_below HY3.out K5' hs4)
  have HK6 := Lib.hid (HK4.out.below K5' HK4.out.l1 HK4.out.l2)
  have HB6 := Lib.hid (HB4.out.trans (K5'.mono HB4.out.size))
  have hs6 := K5'.size
  clear K5 K5'
  unfold str
  go_upto_region 7 with fail
  generalize w3.heap.size = by_ at *
  generalize w5.alloc (.cells #[.int .i64 k, .int .i64 n, .string ⟨t.toArray⟩, .slice an ln cn, .slice ai li ci] 26 (0, 0)) = W6 at *
  obtain ⟨x0, x1, x2, x3, x4⟩ := five_cells' HX6.out
  obtain ⟨y0, y1, y2, y3, y4⟩ := five_cells' HY6.out
  obtain ⟨q0, q1, q2, q3, q4⟩ := show _ ∧ _ ∧ _ ∧ _ ∧ _ from ⟨HK6.out.i0, HK6.out.i1, HK6.out.i2, HK6.out.i3, HK6.out.i4⟩
  have hyl : by_ < W6.heap.size := (Array.getElem?_eq_some_iff.1 HY6.out).1
  have hxl : bx < W6.heap.size := (Array.getElem?_eq_some_iff.1 HX6.out).1
  have hk1 := HK6.out.l1
  have hk2 := HK6.out.l2
  go_region_held3 (fun w' => w'.cell? ⟨bx, 0, none⟩ = some (.int .i64 6) ∧ w'.cell? ⟨bx, 1, none⟩ = some (.int .i64 0) ∧ w'.cell? ⟨bx, 2, none⟩ = some (.string ⟨#[]⟩) ∧ w'.cell? ⟨bx, 3, none⟩ = some (.slice (some ⟨g1, 0, none⟩) 2 c1) ∧ w'.cell? ⟨bx, 4, none⟩ = some (.slice (some ⟨g2, 0, none⟩) 2 c2) ∧ w'.cell? ⟨by_, 0, none⟩ = some (.int .i64 3) ∧ w'.cell? ⟨by_, 1, none⟩ = some (.int .i64 0) ∧ w'.cell? ⟨by_, 2, none⟩ = some (.string ⟨#[]⟩) ∧ w'.cell? ⟨by_, 3, none⟩ = some (.slice a 0 c) ∧ w'.cell? ⟨by_, 4, none⟩ = some (.slice none 0 0) ∧ w'.cell? ⟨g2, 0, none⟩ = some (.int .i64 3) ∧ w'.cell? ⟨g2, 1, none⟩ = some (.int .i64 0) ∧ w'.cell? ⟨g2, 2, none⟩ = some (.string ⟨#[]⟩) ∧ w'.cell? ⟨g2, 3, none⟩ = some (.slice an0 0 cn0) ∧ w'.cell? ⟨g2, 4, none⟩ = some (.slice ai0 0 ci0))
    (first
      | go_keep
      | (refine ⟨?_, ?_, ?_, ?_, ?_, ?_, ?_, ?_, ?_, ?_, ?_, ?_, ?_, ?_, ?_⟩ <;> assumption))
    (first
      | ((with_reducible refine (same_yes a c an0 cn0 ai0 ci0 _).mono ?_); rintro e w7 ⟨rfl, K7⟩; have K67 := (Below.refl W6.heap.size W6).drew.trans K7; have HX7 := Lib.hid (box_below HX6.out K67 hxl); have HY7 := Lib.hid (box_below HY6.out K67 hyl); have HK7 := Lib.hid (HK6.out.below K67 hk1 hk2); have hs7 := K67.size; obtain ⟨x0', x1', x2', x3', x4'⟩ := five_cells' HX7.out; obtain ⟨y0', y1', y2', y3', y4'⟩ := five_cells' HY7.out; obtain ⟨q0', q1', q2', q3', q4'⟩ := show _ ∧ _ ∧ _ ∧ _ ∧ _ from ⟨HK7.out.i0, HK7.out.i1, HK7.out.i2, HK7.out.i3, HK7.out.i4⟩; have HB7 := Lib.hid K67; clear K7 K67)
      | ((with_reducible refine (same_no a c c1 c2 g1 g2 _).mono ?_); rintro e w8 ⟨rfl, K8⟩; have HX8 := Lib.hid (box_below HX7.out K8 (by omega)); have HY8 := Lib.hid (box_below HY7.out K8 (by omega)); have HK8 := Lib.hid (HK7.out.below K8 (by omega) (by omega)); obtain ⟨x0'', x1'', x2'', x3'', x4''⟩ := five_cells' HX8.out; obtain ⟨y0'', y1'', y2'', y3'', y4''⟩ := five_cells' HY8.out; obtain ⟨q0'', q1'', q2'', q3'', q4''⟩ := show _ ∧ _ ∧ _ ∧ _ ∧ _ from ⟨HK8.out.i0, HK8.out.i1, HK8.out.i2, HK8.out.i3, HK8.out.i4⟩; have HB8 := Lib.hid K8; clear K8))
  all_goals
    go_wp2_with fail
    go_ret
    exact ⟨rfl, HB6.out.trans ((HB7.out.trans (HB8.out.mono HB7.out.size)).mono HB6.out.size)⟩

#print axioms known_any

end Jot
end Go.Proofs.YthgcnmdnjfajbaaGreatDoor

namespace Go.Proofs.YthgcnmdnjfajbaaGreatDoor
open Go.RowKit
namespace Jot

/-- Parse with a known error and place. -/
def PTwo (er p : Int) (w : World) (e : Ending) (w' : World) : Prop :=
  ∃ (k n : Int) (t : Bs) (an : Option Addr) (ln cn : Nat) (ai : Option Addr) (li ci : Nat), e = .returned (.tuple #[.agg #[.int .i64 k, .int .i64 n, str t, .slice an ln cn, .slice ai li ci], .int .i64 er, .int .i64 p]) ∧ Below w.heap.size w w'

theorem parse_two (s : ByteArray) (v : JV) (er p : Nat) (er' p' : Int) (h : parse (L s) = (v, er, p)) (he : (er : Int) = er') (hp : (p : Int) = p') (w : World) : Calls Tryz.prog 5 #[.string s] w (PTwo er' p' w) :=
  (parse_any s w).mono fun e w' ⟨k, n, t, an, ln, cn, ai, li, ci, hee, hk, _⟩ => ⟨k, n, t, an, ln, cn, ai, li, ci, by rw [hee, h, ← he, ← hp], hk.below⟩

/-- Parse of a long text: Kind is 0. -/
def PLong (w : World) (e : Ending) (w' : World) : Prop :=
  ∃ (n : Int) (t : Bs) (an : Option Addr) (ln cn : Nat) (ai : Option Addr) (li ci : Nat), e = .returned (.tuple #[.agg #[.int .i64 0, .int .i64 n, str t, .slice an ln cn, .slice ai li ci], .int .i64 44, .int .i64 4000]) ∧ Below w.heap.size w w'

theorem parse_eq (l : Bs) : parse l = if 4000 < l.length then (.null, 44, 4000) else match run start l 0 with | .ok v => (v, 0, 0) | .bad e p => (.null, e, p) := by
  unfold parse readS R
  rw [List.drop_zero]
  rfl

theorem parse_lg (l : Bs) (h : 4000 < l.length) : parse l = (.null, 44, 4000) := by
  rw [parse_eq, if_pos h]

theorem parse_far (s : ByteArray) (h : 4000 < s.size) (w : World) : Calls Tryz.prog 5 #[.string s] w (PLong w) := by
  refine (parse_any s w).mono ?_
  rintro e w' ⟨k, n, t, an, ln, cn, ai, li, ci, rfl, hk, hj⟩
  have hp := parse_lg (L s) (by rw [L_len]; exact h)
  rw [hp] at hj ⊢
  obtain ⟨an', cn', ai', ci', vs, hv, _⟩ := hj
  cases hv
  exact ⟨_, _, _, _, _, _, _, _, rfl, hk.below⟩

/-- A text that is refused: the place, what is ahead of it, and what stands there. -/
def Refused (l : Bs) (e p : Nat) : Prop :=
  e ≠ 0 ∧ p ≤ l.length ∧ (p = l.length → e = 40) ∧ ∃ st, runTo start (l.take p) = some st ∧ (p < l.length → ∃ c, l[p]? = some c ∧ δ st c = .bad e)

theorem parse_cases (l : Bs) (h : l.length ≤ 4000) : (∃ v, parse l = (v, 0, 0)) ∨ ∃ e p, parse l = (.null, e, p) ∧ Refused l e p := by
  rw [parse_eq, if_neg (by omega)]
  cases hr : run start l 0 with
  | ok v => exact .inl ⟨v, rfl⟩
  | bad e p =>
    right
    refine ⟨e, p, rfl, ?_⟩
    obtain ⟨n, st, hq, hn, ht, ho⟩ := run_bad hr
    obtain rfl : p = n := by omega
    rcases ho with ⟨h1, h2, _⟩ | ⟨c, h1, h2⟩
    · exact ⟨by rw [h2]; decide, hn, fun _ => h2, st, ht, fun h3 => by omega⟩
    · have hlt := (List.getElem?_eq_some_iff.1 h1).1
      exact ⟨bad_ne h2, hn, fun h3 => by omega, st, ht, fun _ => ⟨c, h1, h2⟩⟩

theorem parse_fin {l : Bs} {st : St} (h : l.length ≤ 4000) (hr : runTo start l = some st) (hf : fin st = true) : ∃ v, parse l = (v, 0, 0) := by
  rw [parse_eq, if_neg (by omega)]
  obtain ⟨v, hv⟩ := fin_iff.1 hf
  exact ⟨v, by rw [run_to 0 hr, hv]⟩

theorem parse_stuck {l : Bs} {e p : Nat} (more : Bs) (hR : Refused l e p) (hp : p < l.length) (h : (l.take (p + 1) ++ more).length ≤ 4000) : parse (l.take (p + 1) ++ more) = (.null, e, p) := by
  obtain ⟨_, _, _, st, hr, hc⟩ := hR
  obtain ⟨c, h1, h2⟩ := hc hp
  have ht : l.take (p + 1) ++ more = l.take p ++ c :: more := by rw [List.take_add_one, h1]; simp
  rw [parse_eq, if_neg (by omega), ht, run_bad_at 0 hr h2, Nat.zero_add, List.length_take, Nat.min_eq_left (by omega)]

theorem L_take (s : ByteArray) (p : Nat) : L (s.extract 0 p) = (L s).take p := by
  simp [L]

theorem L_cat (a b : ByteArray) : L (a ++ b) = L a ++ L b := by simp [L]

end Jot
end Go.Proofs.YthgcnmdnjfajbaaGreatDoor
