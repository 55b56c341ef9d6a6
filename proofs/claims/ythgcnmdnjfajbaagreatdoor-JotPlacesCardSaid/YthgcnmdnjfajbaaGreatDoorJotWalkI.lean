/- Walk of package jot: escaped. Conditions: a parser that stands in its text, a row of bytes that the caller owns. -/
import Derived.Test.YthgcnmdnjfajbaaGreatDoorJotWalkH
import Derived.Test.YthgcnmdnjfajbaaGreatDoorShelf
namespace Go.Proofs.YthgcnmdnjfajbaaGreatDoor
open Go.RowKit
namespace Jot

/-- Below block B all is as it was, but for one block. -/
structure KeptB (B bp : Nat) (w w' : World) : Prop where
  os : w'.os = w.os
  tape : w'.tape = w.tape
  output : w'.output = w.output
  size : w.heap.size ≤ w'.heap.size
  block : ∀ k, k < B → k ≠ bp → w'.heap[k]? = w.heap[k]?

theorem KeptB.refl (B bp : Nat) (w : World) : KeptB B bp w w := ⟨rfl, rfl, rfl, Nat.le_refl _, fun _ _ _ => rfl⟩
theorem KeptB.trans {B bp : Nat} {a b c : World} (h : KeptB B bp a b) (k : KeptB B bp b c) : KeptB B bp a c :=
  ⟨k.os.trans h.os, k.tape.trans h.tape, k.output.trans h.output, Nat.le_trans h.size k.size, fun i hi hn => (k.block i hi hn).trans (h.block i hi hn)⟩
theorem Kept.toB {B bp : Nat} {w w' : World} (h : Kept bp w w') (hB : B ≤ w.heap.size) : KeptB B bp w w' :=
  ⟨h.os, h.tape, h.output, h.size, fun k hk hn => h.block k (by omega) hn⟩
theorem KeptB.toK {bp : Nat} {w w' : World} (h : KeptB w.heap.size bp w w') : Kept bp w w' := ⟨h.os, h.tape, h.output, h.size, h.block⟩
theorem KeptB.grown {B bp : Nat} {w w' : World} {row : Option Nat} (h : w.grownBy w' row) (hB : B ≤ w.heap.size) (hr : ∀ k, row = some k → B ≤ k) : KeptB B bp w w' :=
  ⟨h.os, h.tape, h.output, h.size, fun k hk _ => h.block k (by omega) (fun e => by have := hr k e.symm; omega)⟩
theorem KeptB.alloc {B bp : Nat} {a w : World} (h : KeptB B bp a w) (hB : B ≤ w.heap.size) (o : Obj) : KeptB B bp a (w.alloc o) :=
  h.trans ⟨rfl, rfl, rfl, by simp, fun k hk _ => Below.heap_alloc _ _ _ (by omega)⟩
theorem KeptB.drewN {B bp : Nat} {a w : World} (h : KeptB B bp a w) (n : Nat) : KeptB B bp a (w.drewN n) := ⟨h.os, h.tape, h.output, h.size, h.block⟩
theorem KeptB.drew {B bp : Nat} {a w : World} (h : KeptB B bp a w) : KeptB B bp a w.drew := ⟨h.os, h.tape, h.output, h.size, h.block⟩
theorem At.grown {w w' : World} {bp : Nat} {s : ByteArray} {i d : Nat} {row : Option Nat} (h : At w bp s i d) (hg : w.grownBy w' row) (hr : ∀ k, row = some k → k ≠ bp) : At w' bp s i d := by
  unfold At at h ⊢
  rw [hg.block bp (Array.getElem?_eq_some_iff.1 h).1 (fun e => hr bp e.symm rfl)]
  exact h

/-- The cells of a row of bytes. -/
def bc (l : Bs) : List Value := l.map fun b => Value.int .u8 b.toNat
theorem bc_append (a b : Bs) : bc (a ++ b) = bc a ++ bc b := List.map_append
theorem bc_len (a : Bs) : (bc a).length = a.length := List.length_map _

/-- A slice that owns these bytes, from block B on. -/
def Own (w : World) (B : Nat) (v : Value) (acc : Bs) : Prop := w.ownsRow B 5 1 v acc.length (bc acc)

theorem Own.lt {w : World} {B : Nat} {v : Value} {acc : Bs} (h : Own w B v acc) : ∀ k, v.ownBlock = some k → B ≤ k ∧ k < w.heap.size := World.ownsRow.lt h
theorem Own.keptK {w w' : World} {B bp : Nat} {v : Value} {acc : Bs} (h : Own w B v acc) (hk : Kept bp w w') (hb : bp < B) : Own w' B v acc := by
  refine ⟨h.1, ?_⟩
  rcases h.2 with h2 | ⟨g, cap, cur, hv, hg, hh, r⟩
  · exact Or.inl h2
  · exact Or.inr ⟨g, cap, cur, hv, hg, by rw [hk.block g (Array.getElem?_eq_some_iff.1 hh).1 (by omega)]; exact hh, r⟩

theorem runeCells_utf8 {r : Nat} (h : r < 0x110000) (hs : ¬ (0xd800 ≤ r ∧ r ≤ 0xdfff)) : Lib.runeCells (r : Int) = bc (utf8 r) := by
  unfold Lib.runeCells Lib.encodeRuneZ utf8 bc
  by_cases h1 : r < 0x80
  · rw [if_pos (by omega), if_pos h1]; simp [Nat.mod_eq_of_lt (show r < 256 by omega)]
  · rw [if_neg (by omega), if_neg h1]
    by_cases h2 : r < 0x800
    · rw [if_pos (by omega), if_pos h2]; simp; omega
    · rw [if_neg (by omega), if_neg h2]
      by_cases h3 : r < 0x10000
      · rw [if_pos (by omega), if_pos h3]; simp; omega
      · rw [if_neg (by omega), if_neg h3, if_pos (by omega)]; simp; omega

theorem utf8_len (r : Nat) : (utf8 r).length ≤ 4 := by
  unfold utf8
  repeat' split
  all_goals simp

theorem infoByte : (Tryz.prog.info? 5).map (fun i => (i.zero, i.size, i.bytes)) = some (some (.int .u8 0), 1, 1) := by kernel_rfl

theorem news_one {X : World} {k : Nat} {v : Value} {t : TypeId} (h : k = X.heap.size) : ∀ j u, [v][j]? = some u → (X.alloc (.cells #[v] t)).cell? ((⟨k, 0, none⟩ : Addr).add j) = some u := by
  subst h; exact cell_one_new X v t

/-- What escaped comes to. -/
def EscPost (B bp : Nat) (s : ByteArray) (w : World) (i d : Nat) (acc : Bs) (e : Ending) (w' : World) : Prop :=
  (∃ (v' : Value) (acc' : Bs) (j : Nat), i < j ∧ j ≤ s.size ∧ e = .returned v' ∧ At w' bp s j d ∧ Own w' B v' acc' ∧ KeptB B bp w w' ∧ acc'.length ≤ acc.length + 4 ∧
    ∀ key k, R (L s) i ⟨.text key .plain acc, k⟩ = R (L s) j ⟨.text key .plain acc', k⟩) ∨
  (∃ p, p ≤ s.size ∧ Gave bp w 40 p e w' ∧ ∀ key k, R (L s) i ⟨.text key .plain acc, k⟩ = .bad eForm p)

theorem esc_R {l : Bs} {i : Nat} (h : l[i]? = some 92) (key : Bool) (acc : Bs) (k : List Fr) : R l i ⟨.text key .plain acc, k⟩ = R l (i + 1) ⟨.text key .esc acc, k⟩ := by
  rw [R_go h]; simp [δ, dText]

theorem esc_simple_R {l : Bs} {i : Nat} {c b : UInt8} (h : l[i]? = some 92) (hc : l[i + 1]? = some c) (hu : c ≠ 117) (hb : escByte c = some b) (key : Bool) (acc : Bs) (k : List Fr) :
    R l i ⟨.text key .plain acc, k⟩ = R l (i + 1 + 1) ⟨.text key .plain (acc ++ [b]), k⟩ := by
  rw [esc_R h, R_go hc]; simp [δ, dText, hu, hb]

theorem esc_none_R {l : Bs} {i : Nat} (h : l[i]? = some 92) (hc : ∀ c, l[i + 1]? = some c → c ≠ 117 ∧ escByte c = none) (key : Bool) (acc : Bs) (k : List Fr) :
    R l i ⟨.text key .plain acc, k⟩ = .bad eForm (i + 1) := by
  rw [esc_R h]
  cases hj : l[i + 1]? with
  | none => rw [R_end (List.getElem?_eq_none_iff.1 hj)]; simp [eof]
  | some c => obtain ⟨h1, h2⟩ := hc c hj; rw [R_bad hj (e := eForm)]; simp [δ, dText, h1, h2]

theorem esc_u_R {l : Bs} {i : Nat} (h : l[i]? = some 92) (hc : l[i + 1]? = some 117) (key : Bool) (acc : Bs) (k : List Fr) :
    R l i ⟨.text key .plain acc, k⟩ = R l (i + 1 + 1) ⟨.text key (.hex 0 0) acc, k⟩ := by
  rw [esc_R h, R_go hc]; simp [δ, dText]

set_option maxRecDepth 100000 in
set_option maxHeartbeats 1000000 in
theorem esc_34 (B bp : Nat) (s : ByteArray) (i d : Nat) (v : Value) (acc : Bs) (w : World) (h : At w bp s i d) (hs : s.size ≤ 4000) (hi : i + 1 < s.size) (hc : s[i + 1].toNat = 34)
    (hown : Own w B v acc) (hb : bp < B) (hacc : acc.length ≤ 20000) (hB : B ≤ w.heap.size) :
    Calls Tryz.prog 40 #[.pointer (some ⟨bp, 0, none⟩), v] w fun e w' => ∃ v', e = .returned v' ∧ At w' bp s (i + 1 + 1) d ∧ Own w' B v' (acc ++ [34]) ∧ KeptB B bp w w' := by
  obtain ⟨i0, hi0, hz0, hz1, hz2⟩ := info_parts infoByte
  have c1 := h.c1
  have f1 := h.f1
  have hA1 := h.set1 (i + 1)
  have hO1 := hown.keptK (((Kept.refl bp w).set 1 (.int .i64 (i + 1 : Nat)))) hb
  have HA1 := Lib.hid hA1
  have HO1 := Lib.hid hO1
  have hcon := here_some bp s (i + 1) d _ hA1 hi
  rw [hc] at hcon
  have HC := Lib.hid hcon
  have HB := Lib.hid hB
  have HBP := Lib.hid hb
  have hBlt := h.lt
  have H0 := Lib.hid hi0
  clear h hA1 hO1 hown hcon hc hi0
  go_enter Tryz.func40, Tryz.ntmps40
  go_wp2_with fail
  refine (HC.out).mono ?_
  rintro e w' ⟨rfl, n1, rfl⟩
  go_wp2_with (at_builtin; refine wpList_append_own _ rfl _ _ 52 rfl B 5 i0 (.int .u8 0) 1 1 Tryz.underlying52 H0.out hz0 hz1 hz2 rfl (by decide) _ _ _ rfl (((HO1.out.keptK (((Kept.refl bp _).drewN n1).set 1 (.int .i64 (i + 1 + 1 : Nat))) HBP.out)).alloc _) ⟨w.heap.size, 0, none⟩ 1 1 [.int .u8 34] rfl rfl ?c1 ?c2 ?c3 ?c4 ?c5 ?_)
  case c1 => exact news_one (by simp)
  case c2 => intro u hu; simp at hu; subst hu; rfl
  case c3 => unfold maxLen; omega
  case c4 => omega
  case c5 => have := HB.out; simp; omega
  intro v' w1 hown' hgrow _
  have HW := Lib.hid hown'
  have HG := Lib.hid hgrow
  clear hown' hgrow
  go_wp2_with fail
  go_ret
  have hlt : ∀ k, v.ownBlock = some k → B ≤ k := fun k hk => (HO1.out.lt k hk).1
  have hA2 : At (((w.setCell ⟨bp, 1, none⟩ (.int .i64 (i + 1 : Nat))).drewN n1).setCell ⟨bp, 1, none⟩ (.int .i64 (i + 1 + 1 : Nat))) bp s (i + 1 + 1) d := (HA1.out.drewN n1).set1 (i + 1 + 1)
  refine ⟨_, rfl, (hA2.alloc _).grown HG.out (fun k hk => ?_), ?_, ?_⟩
  · have := hlt k hk; have := HBP.out; omega
  · unfold Own; rw [bc_append, List.length_append]; exact HW.out
  · refine KeptB.trans ?_ (KeptB.grown HG.out ?_ hlt)
    · exact ((((((Kept.refl bp w).set 1 _).drewN n1).set 1 _).alloc _).toB HB.out)
    · have := HB.out; simp; omega

set_option maxRecDepth 100000 in
set_option maxHeartbeats 1000000 in
theorem esc_92 (B bp : Nat) (s : ByteArray) (i d : Nat) (v : Value) (acc : Bs) (w : World) (h : At w bp s i d) (hs : s.size ≤ 4000) (hi : i + 1 < s.size) (hc : s[i + 1].toNat = 92)
    (hown : Own w B v acc) (hb : bp < B) (hacc : acc.length ≤ 20000) (hB : B ≤ w.heap.size) :
    Calls Tryz.prog 40 #[.pointer (some ⟨bp, 0, none⟩), v] w fun e w' => ∃ v', e = .returned v' ∧ At w' bp s (i + 1 + 1) d ∧ Own w' B v' (acc ++ [92]) ∧ KeptB B bp w w' := by
  obtain ⟨i0, hi0, hz0, hz1, hz2⟩ := info_parts infoByte
  have c1 := h.c1
  have f1 := h.f1
  have hA1 := h.set1 (i + 1)
  have hO1 := hown.keptK (((Kept.refl bp w).set 1 (.int .i64 (i + 1 : Nat)))) hb
  have HA1 := Lib.hid hA1
  have HO1 := Lib.hid hO1
  have hcon := here_some bp s (i + 1) d _ hA1 hi
  rw [hc] at hcon
  have HC := Lib.hid hcon
  have HB := Lib.hid hB
  have HBP := Lib.hid hb
  have hBlt := h.lt
  have H0 := Lib.hid hi0
  clear h hA1 hO1 hown hcon hc hi0
  go_enter Tryz.func40, Tryz.ntmps40
  go_wp2_with fail
  refine (HC.out).mono ?_
  rintro e w' ⟨rfl, n1, rfl⟩
  go_wp2_with (at_builtin; refine wpList_append_own _ rfl _ _ 52 rfl B 5 i0 (.int .u8 0) 1 1 Tryz.underlying52 H0.out hz0 hz1 hz2 rfl (by decide) _ _ _ rfl (((HO1.out.keptK (((Kept.refl bp _).drewN n1).set 1 (.int .i64 (i + 1 + 1 : Nat))) HBP.out)).alloc _) ⟨w.heap.size, 0, none⟩ 1 1 [.int .u8 92] rfl rfl ?c1 ?c2 ?c3 ?c4 ?c5 ?_)
  case c1 => exact news_one (by simp)
  case c2 => intro u hu; simp at hu; subst hu; rfl
  case c3 => unfold maxLen; omega
  case c4 => omega
  case c5 => have := HB.out; simp; omega
  intro v' w1 hown' hgrow _
  have HW := Lib.hid hown'
  have HG := Lib.hid hgrow
  clear hown' hgrow
  go_wp2_with fail
  go_ret
  have hlt : ∀ k, v.ownBlock = some k → B ≤ k := fun k hk => (HO1.out.lt k hk).1
  have hA2 : At (((w.setCell ⟨bp, 1, none⟩ (.int .i64 (i + 1 : Nat))).drewN n1).setCell ⟨bp, 1, none⟩ (.int .i64 (i + 1 + 1 : Nat))) bp s (i + 1 + 1) d := (HA1.out.drewN n1).set1 (i + 1 + 1)
  refine ⟨_, rfl, (hA2.alloc _).grown HG.out (fun k hk => ?_), ?_, ?_⟩
  · have := hlt k hk; have := HBP.out; omega
  · unfold Own; rw [bc_append, List.length_append]; exact HW.out
  · refine KeptB.trans ?_ (KeptB.grown HG.out ?_ hlt)
    · exact ((((((Kept.refl bp w).set 1 _).drewN n1).set 1 _).alloc _).toB HB.out)
    · have := HB.out; simp; omega

set_option maxRecDepth 100000 in
set_option maxHeartbeats 1000000 in
theorem esc_47 (B bp : Nat) (s : ByteArray) (i d : Nat) (v : Value) (acc : Bs) (w : World) (h : At w bp s i d) (hs : s.size ≤ 4000) (hi : i + 1 < s.size) (hc : s[i + 1].toNat = 47)
    (hown : Own w B v acc) (hb : bp < B) (hacc : acc.length ≤ 20000) (hB : B ≤ w.heap.size) :
    Calls Tryz.prog 40 #[.pointer (some ⟨bp, 0, none⟩), v] w fun e w' => ∃ v', e = .returned v' ∧ At w' bp s (i + 1 + 1) d ∧ Own w' B v' (acc ++ [47]) ∧ KeptB B bp w w' := by
  obtain ⟨i0, hi0, hz0, hz1, hz2⟩ := info_parts infoByte
  have c1 := h.c1
  have f1 := h.f1
  have hA1 := h.set1 (i + 1)
  have hO1 := hown.keptK (((Kept.refl bp w).set 1 (.int .i64 (i + 1 : Nat)))) hb
  have HA1 := Lib.hid hA1
  have HO1 := Lib.hid hO1
  have hcon := here_some bp s (i + 1) d _ hA1 hi
  rw [hc] at hcon
  have HC := Lib.hid hcon
  have HB := Lib.hid hB
  have HBP := Lib.hid hb
  have hBlt := h.lt
  have H0 := Lib.hid hi0
  clear h hA1 hO1 hown hcon hc hi0
  go_enter Tryz.func40, Tryz.ntmps40
  go_wp2_with fail
  refine (HC.out).mono ?_
  rintro e w' ⟨rfl, n1, rfl⟩
  go_wp2_with (at_builtin; refine wpList_append_own _ rfl _ _ 52 rfl B 5 i0 (.int .u8 0) 1 1 Tryz.underlying52 H0.out hz0 hz1 hz2 rfl (by decide) _ _ _ rfl (((HO1.out.keptK (((Kept.refl bp _).drewN n1).set 1 (.int .i64 (i + 1 + 1 : Nat))) HBP.out)).alloc _) ⟨w.heap.size, 0, none⟩ 1 1 [.int .u8 47] rfl rfl ?c1 ?c2 ?c3 ?c4 ?c5 ?_)
  case c1 => exact news_one (by simp)
  case c2 => intro u hu; simp at hu; subst hu; rfl
  case c3 => unfold maxLen; omega
  case c4 => omega
  case c5 => have := HB.out; simp; omega
  intro v' w1 hown' hgrow _
  have HW := Lib.hid hown'
  have HG := Lib.hid hgrow
  clear hown' hgrow
  go_wp2_with fail
  go_ret
  have hlt : ∀ k, v.ownBlock = some k → B ≤ k := fun k hk => (HO1.out.lt k hk).1
  have hA2 : At (((w.setCell ⟨bp, 1, none⟩ (.int .i64 (i + 1 : Nat))).drewN n1).setCell ⟨bp, 1, none⟩ (.int .i64 (i + 1 + 1 : Nat))) bp s (i + 1 + 1) d := (HA1.out.drewN n1).set1 (i + 1 + 1)
  refine ⟨_, rfl, (hA2.alloc _).grown HG.out (fun k hk => ?_), ?_, ?_⟩
  · have := hlt k hk; have := HBP.out; omega
  · unfold Own; rw [bc_append, List.length_append]; exact HW.out
  · refine KeptB.trans ?_ (KeptB.grown HG.out ?_ hlt)
    · exact ((((((Kept.refl bp w).set 1 _).drewN n1).set 1 _).alloc _).toB HB.out)
    · have := HB.out; simp; omega

set_option maxRecDepth 100000 in
set_option maxHeartbeats 1000000 in
theorem esc_98 (B bp : Nat) (s : ByteArray) (i d : Nat) (v : Value) (acc : Bs) (w : World) (h : At w bp s i d) (hs : s.size ≤ 4000) (hi : i + 1 < s.size) (hc : s[i + 1].toNat = 98)
    (hown : Own w B v acc) (hb : bp < B) (hacc : acc.length ≤ 20000) (hB : B ≤ w.heap.size) :
    Calls Tryz.prog 40 #[.pointer (some ⟨bp, 0, none⟩), v] w fun e w' => ∃ v', e = .returned v' ∧ At w' bp s (i + 1 + 1) d ∧ Own w' B v' (acc ++ [8]) ∧ KeptB B bp w w' := by
  obtain ⟨i0, hi0, hz0, hz1, hz2⟩ := info_parts infoByte
  have c1 := h.c1
  have f1 := h.f1
  have hA1 := h.set1 (i + 1)
  have hO1 := hown.keptK (((Kept.refl bp w).set 1 (.int .i64 (i + 1 : Nat)))) hb
  have HA1 := Lib.hid hA1
  have HO1 := Lib.hid hO1
  have hcon := here_some bp s (i + 1) d _ hA1 hi
  rw [hc] at hcon
  have HC := Lib.hid hcon
  have HB := Lib.hid hB
  have HBP := Lib.hid hb
  have hBlt := h.lt
  have H0 := Lib.hid hi0
  clear h hA1 hO1 hown hcon hc hi0
  go_enter Tryz.func40, Tryz.ntmps40
  go_wp2_with fail
  refine (HC.out).mono ?_
  rintro e w' ⟨rfl, n1, rfl⟩
  go_wp2_with (at_builtin; refine wpList_append_own _ rfl _ _ 52 rfl B 5 i0 (.int .u8 0) 1 1 Tryz.underlying52 H0.out hz0 hz1 hz2 rfl (by decide) _ _ _ rfl (((HO1.out.keptK (((Kept.refl bp _).drewN n1).set 1 (.int .i64 (i + 1 + 1 : Nat))) HBP.out)).alloc _) ⟨w.heap.size, 0, none⟩ 1 1 [.int .u8 8] rfl rfl ?c1 ?c2 ?c3 ?c4 ?c5 ?_)
  case c1 => exact news_one (by simp)
  case c2 => intro u hu; simp at hu; subst hu; rfl
  case c3 => unfold maxLen; omega
  case c4 => omega
  case c5 => have := HB.out; simp; omega
  intro v' w1 hown' hgrow _
  have HW := Lib.hid hown'
  have HG := Lib.hid hgrow
  clear hown' hgrow
  go_wp2_with fail
  go_ret
  have hlt : ∀ k, v.ownBlock = some k → B ≤ k := fun k hk => (HO1.out.lt k hk).1
  have hA2 : At (((w.setCell ⟨bp, 1, none⟩ (.int .i64 (i + 1 : Nat))).drewN n1).setCell ⟨bp, 1, none⟩ (.int .i64 (i + 1 + 1 : Nat))) bp s (i + 1 + 1) d := (HA1.out.drewN n1).set1 (i + 1 + 1)
  refine ⟨_, rfl, (hA2.alloc _).grown HG.out (fun k hk => ?_), ?_, ?_⟩
  · have := hlt k hk; have := HBP.out; omega
  · unfold Own; rw [bc_append, List.length_append]; exact HW.out
  · refine KeptB.trans ?_ (KeptB.grown HG.out ?_ hlt)
    · exact ((((((Kept.refl bp w).set 1 _).drewN n1).set 1 _).alloc _).toB HB.out)
    · have := HB.out; simp; omega

set_option maxRecDepth 100000 in
set_option maxHeartbeats 1000000 in
theorem esc_102 (B bp : Nat) (s : ByteArray) (i d : Nat) (v : Value) (acc : Bs) (w : World) (h : At w bp s i d) (hs : s.size ≤ 4000) (hi : i + 1 < s.size) (hc : s[i + 1].toNat = 102)
    (hown : Own w B v acc) (hb : bp < B) (hacc : acc.length ≤ 20000) (hB : B ≤ w.heap.size) :
    Calls Tryz.prog 40 #[.pointer (some ⟨bp, 0, none⟩), v] w fun e w' => ∃ v', e = .returned v' ∧ At w' bp s (i + 1 + 1) d ∧ Own w' B v' (acc ++ [12]) ∧ KeptB B bp w w' := by
  obtain ⟨i0, hi0, hz0, hz1, hz2⟩ := info_parts infoByte
  have c1 := h.c1
  have f1 := h.f1
  have hA1 := h.set1 (i + 1)
  have hO1 := hown.keptK (((Kept.refl bp w).set 1 (.int .i64 (i + 1 : Nat)))) hb
  have HA1 := Lib.hid hA1
  have HO1 := Lib.hid hO1
  have hcon := here_some bp s (i + 1) d _ hA1 hi
  rw [hc] at hcon
  have HC := Lib.hid hcon
  have HB := Lib.hid hB
  have HBP := Lib.hid hb
  have hBlt := h.lt
  have H0 := Lib.hid hi0
  clear h hA1 hO1 hown hcon hc hi0
  go_enter Tryz.func40, Tryz.ntmps40
  go_wp2_with fail
  refine (HC.out).mono ?_
  rintro e w' ⟨rfl, n1, rfl⟩
  go_wp2_with (at_builtin; refine wpList_append_own _ rfl _ _ 52 rfl B 5 i0 (.int .u8 0) 1 1 Tryz.underlying52 H0.out hz0 hz1 hz2 rfl (by decide) _ _ _ rfl (((HO1.out.keptK (((Kept.refl bp _).drewN n1).set 1 (.int .i64 (i + 1 + 1 : Nat))) HBP.out)).alloc _) ⟨w.heap.size, 0, none⟩ 1 1 [.int .u8 12] rfl rfl ?c1 ?c2 ?c3 ?c4 ?c5 ?_)
  case c1 => exact news_one (by simp)
  case c2 => intro u hu; simp at hu; subst hu; rfl
  case c3 => unfold maxLen; omega
  case c4 => omega
  case c5 => have := HB.out; simp; omega
  intro v' w1 hown' hgrow _
  have HW := Lib.hid hown'
  have HG := Lib.hid hgrow
  clear hown' hgrow
  go_wp2_with fail
  go_ret
  have hlt : ∀ k, v.ownBlock = some k → B ≤ k := fun k hk => (HO1.out.lt k hk).1
  have hA2 : At (((w.setCell ⟨bp, 1, none⟩ (.int .i64 (i + 1 : Nat))).drewN n1).setCell ⟨bp, 1, none⟩ (.int .i64 (i + 1 + 1 : Nat))) bp s (i + 1 + 1) d := (HA1.out.drewN n1).set1 (i + 1 + 1)
  refine ⟨_, rfl, (hA2.alloc _).grown HG.out (fun k hk => ?_), ?_, ?_⟩
  · have := hlt k hk; have := HBP.out; omega
  · unfold Own; rw [bc_append, List.length_append]; exact HW.out
  · refine KeptB.trans ?_ (KeptB.grown HG.out ?_ hlt)
    · exact ((((((Kept.refl bp w).set 1 _).drewN n1).set 1 _).alloc _).toB HB.out)
    · have := HB.out; simp; omega

set_option maxRecDepth 100000 in
set_option maxHeartbeats 1000000 in
theorem esc_110 (B bp : Nat) (s : ByteArray) (i d : Nat) (v : Value) (acc : Bs) (w : World) (h : At w bp s i d) (hs : s.size ≤ 4000) (hi : i + 1 < s.size) (hc : s[i + 1].toNat = 110)
    (hown : Own w B v acc) (hb : bp < B) (hacc : acc.length ≤ 20000) (hB : B ≤ w.heap.size) :
    Calls Tryz.prog 40 #[.pointer (some ⟨bp, 0, none⟩), v] w fun e w' => ∃ v', e = .returned v' ∧ At w' bp s (i + 1 + 1) d ∧ Own w' B v' (acc ++ [10]) ∧ KeptB B bp w w' := by
  obtain ⟨i0, hi0, hz0, hz1, hz2⟩ := info_parts infoByte
  have c1 := h.c1
  have f1 := h.f1
  have hA1 := h.set1 (i + 1)
  have hO1 := hown.keptK (((Kept.refl bp w).set 1 (.int .i64 (i + 1 : Nat)))) hb
  have HA1 := Lib.hid hA1
  have HO1 := Lib.hid hO1
  have hcon := here_some bp s (i + 1) d _ hA1 hi
  rw [hc] at hcon
  have HC := Lib.hid hcon
  have HB := Lib.hid hB
  have HBP := Lib.hid hb
  have hBlt := h.lt
  have H0 := Lib.hid hi0
  clear h hA1 hO1 hown hcon hc hi0
  go_enter Tryz.func40, Tryz.ntmps40
  go_wp2_with fail
  refine (HC.out).mono ?_
  rintro e w' ⟨rfl, n1, rfl⟩
  go_wp2_with (at_builtin; refine wpList_append_own _ rfl _ _ 52 rfl B 5 i0 (.int .u8 0) 1 1 Tryz.underlying52 H0.out hz0 hz1 hz2 rfl (by decide) _ _ _ rfl (((HO1.out.keptK (((Kept.refl bp _).drewN n1).set 1 (.int .i64 (i + 1 + 1 : Nat))) HBP.out)).alloc _) ⟨w.heap.size, 0, none⟩ 1 1 [.int .u8 10] rfl rfl ?c1 ?c2 ?c3 ?c4 ?c5 ?_)
  case c1 => exact news_one (by simp)
  case c2 => intro u hu; simp at hu; subst hu; rfl
  case c3 => unfold maxLen; omega
  case c4 => omega
  case c5 => have := HB.out; simp; omega
  intro v' w1 hown' hgrow _
  have HW := Lib.hid hown'
  have HG := Lib.hid hgrow
  clear hown' hgrow
  go_wp2_with fail
  go_ret
  have hlt : ∀ k, v.ownBlock = some k → B ≤ k := fun k hk => (HO1.out.lt k hk).1
  have hA2 : At (((w.setCell ⟨bp, 1, none⟩ (.int .i64 (i + 1 : Nat))).drewN n1).setCell ⟨bp, 1, none⟩ (.int .i64 (i + 1 + 1 : Nat))) bp s (i + 1 + 1) d := (HA1.out.drewN n1).set1 (i + 1 + 1)
  refine ⟨_, rfl, (hA2.alloc _).grown HG.out (fun k hk => ?_), ?_, ?_⟩
  · have := hlt k hk; have := HBP.out; omega
  · unfold Own; rw [bc_append, List.length_append]; exact HW.out
  · refine KeptB.trans ?_ (KeptB.grown HG.out ?_ hlt)
    · exact ((((((Kept.refl bp w).set 1 _).drewN n1).set 1 _).alloc _).toB HB.out)
    · have := HB.out; simp; omega

set_option maxRecDepth 100000 in
set_option maxHeartbeats 1000000 in
theorem esc_114 (B bp : Nat) (s : ByteArray) (i d : Nat) (v : Value) (acc : Bs) (w : World) (h : At w bp s i d) (hs : s.size ≤ 4000) (hi : i + 1 < s.size) (hc : s[i + 1].toNat = 114)
    (hown : Own w B v acc) (hb : bp < B) (hacc : acc.length ≤ 20000) (hB : B ≤ w.heap.size) :
    Calls Tryz.prog 40 #[.pointer (some ⟨bp, 0, none⟩), v] w fun e w' => ∃ v', e = .returned v' ∧ At w' bp s (i + 1 + 1) d ∧ Own w' B v' (acc ++ [13]) ∧ KeptB B bp w w' := by
  obtain ⟨i0, hi0, hz0, hz1, hz2⟩ := info_parts infoByte
  have c1 := h.c1
  have f1 := h.f1
  have hA1 := h.set1 (i + 1)
  have hO1 := hown.keptK (((Kept.refl bp w).set 1 (.int .i64 (i + 1 : Nat)))) hb
  have HA1 := Lib.hid hA1
  have HO1 := Lib.hid hO1
  have hcon := here_some bp s (i + 1) d _ hA1 hi
  rw [hc] at hcon
  have HC := Lib.hid hcon
  have HB := Lib.hid hB
  have HBP := Lib.hid hb
  have hBlt := h.lt
  have H0 := Lib.hid hi0
  clear h hA1 hO1 hown hcon hc hi0
  go_enter Tryz.func40, Tryz.ntmps40
  go_wp2_with fail
  refine (HC.out).mono ?_
  rintro e w' ⟨rfl, n1, rfl⟩
  go_wp2_with (at_builtin; refine wpList_append_own _ rfl _ _ 52 rfl B 5 i0 (.int .u8 0) 1 1 Tryz.underlying52 H0.out hz0 hz1 hz2 rfl (by decide) _ _ _ rfl (((HO1.out.keptK (((Kept.refl bp _).drewN n1).set 1 (.int .i64 (i + 1 + 1 : Nat))) HBP.out)).alloc _) ⟨w.heap.size, 0, none⟩ 1 1 [.int .u8 13] rfl rfl ?c1 ?c2 ?c3 ?c4 ?c5 ?_)
  case c1 => exact news_one (by simp)
  case c2 => intro u hu; simp at hu; subst hu; rfl
  case c3 => unfold maxLen; omega
  case c4 => omega
  case c5 => have := HB.out; simp; omega
  intro v' w1 hown' hgrow _
  have HW := Lib.hid hown'
  have HG := Lib.hid hgrow
  clear hown' hgrow
  go_wp2_with fail
  go_ret
  have hlt : ∀ k, v.ownBlock = some k → B ≤ k := fun k hk => (HO1.out.lt k hk).1
  have hA2 : At (((w.setCell ⟨bp, 1, none⟩ (.int .i64 (i + 1 : Nat))).drewN n1).setCell ⟨bp, 1, none⟩ (.int .i64 (i + 1 + 1 : Nat))) bp s (i + 1 + 1) d := (HA1.out.drewN n1).set1 (i + 1 + 1)
  refine ⟨_, rfl, (hA2.alloc _).grown HG.out (fun k hk => ?_), ?_, ?_⟩
  · have := hlt k hk; have := HBP.out; omega
  · unfold Own; rw [bc_append, List.length_append]; exact HW.out
  · refine KeptB.trans ?_ (KeptB.grown HG.out ?_ hlt)
    · exact ((((((Kept.refl bp w).set 1 _).drewN n1).set 1 _).alloc _).toB HB.out)
    · have := HB.out; simp; omega

set_option maxRecDepth 100000 in
set_option maxHeartbeats 1000000 in
theorem esc_116 (B bp : Nat) (s : ByteArray) (i d : Nat) (v : Value) (acc : Bs) (w : World) (h : At w bp s i d) (hs : s.size ≤ 4000) (hi : i + 1 < s.size) (hc : s[i + 1].toNat = 116)
    (hown : Own w B v acc) (hb : bp < B) (hacc : acc.length ≤ 20000) (hB : B ≤ w.heap.size) :
    Calls Tryz.prog 40 #[.pointer (some ⟨bp, 0, none⟩), v] w fun e w' => ∃ v', e = .returned v' ∧ At w' bp s (i + 1 + 1) d ∧ Own w' B v' (acc ++ [9]) ∧ KeptB B bp w w' := by
  obtain ⟨i0, hi0, hz0, hz1, hz2⟩ := info_parts infoByte
  have c1 := h.c1
  have f1 := h.f1
  have hA1 := h.set1 (i + 1)
  have hO1 := hown.keptK (((Kept.refl bp w).set 1 (.int .i64 (i + 1 : Nat)))) hb
  have HA1 := Lib.hid hA1
  have HO1 := Lib.hid hO1
  have hcon := here_some bp s (i + 1) d _ hA1 hi
  rw [hc] at hcon
  have HC := Lib.hid hcon
  have HB := Lib.hid hB
  have HBP := Lib.hid hb
  have hBlt := h.lt
  have H0 := Lib.hid hi0
  clear h hA1 hO1 hown hcon hc hi0
  go_enter Tryz.func40, Tryz.ntmps40
  go_wp2_with fail
  refine (HC.out).mono ?_
  rintro e w' ⟨rfl, n1, rfl⟩
  go_wp2_with (at_builtin; refine wpList_append_own _ rfl _ _ 52 rfl B 5 i0 (.int .u8 0) 1 1 Tryz.underlying52 H0.out hz0 hz1 hz2 rfl (by decide) _ _ _ rfl (((HO1.out.keptK (((Kept.refl bp _).drewN n1).set 1 (.int .i64 (i + 1 + 1 : Nat))) HBP.out)).alloc _) ⟨w.heap.size, 0, none⟩ 1 1 [.int .u8 9] rfl rfl ?c1 ?c2 ?c3 ?c4 ?c5 ?_)
  case c1 => exact news_one (by simp)
  case c2 => intro u hu; simp at hu; subst hu; rfl
  case c3 => unfold maxLen; omega
  case c4 => omega
  case c5 => have := HB.out; simp; omega
  intro v' w1 hown' hgrow _
  have HW := Lib.hid hown'
  have HG := Lib.hid hgrow
  clear hown' hgrow
  go_wp2_with fail
  go_ret
  have hlt : ∀ k, v.ownBlock = some k → B ≤ k := fun k hk => (HO1.out.lt k hk).1
  have hA2 : At (((w.setCell ⟨bp, 1, none⟩ (.int .i64 (i + 1 : Nat))).drewN n1).setCell ⟨bp, 1, none⟩ (.int .i64 (i + 1 + 1 : Nat))) bp s (i + 1 + 1) d := (HA1.out.drewN n1).set1 (i + 1 + 1)
  refine ⟨_, rfl, (hA2.alloc _).grown HG.out (fun k hk => ?_), ?_, ?_⟩
  · have := hlt k hk; have := HBP.out; omega
  · unfold Own; rw [bc_append, List.length_append]; exact HW.out
  · refine KeptB.trans ?_ (KeptB.grown HG.out ?_ hlt)
    · exact ((((((Kept.refl bp w).set 1 _).drewN n1).set 1 _).alloc _).toB HB.out)
    · have := HB.out; simp; omega

set_option maxRecDepth 100000 in
set_option maxHeartbeats 1000000 in
theorem esc_none (bp : Nat) (s : ByteArray) (i d : Nat) (v : Value) (w : World) (h : At w bp s i d) (hs : s.size ≤ 4000) (hi : i + 1 < s.size)
    (hc : s[i + 1] ≠ 117 ∧ escByte s[i + 1] = none) :
    Calls Tryz.prog 40 #[.pointer (some ⟨bp, 0, none⟩), v] w (Gave bp w 40 (i + 1)) := by
  have c1 := h.c1
  have f1 := h.f1
  have hA1 := h.set1 (i + 1)
  have HA1 := Lib.hid hA1
  obtain ⟨h117, he⟩ := hc
  have q1 : s[i + 1].toNat ≠ 34 := by
    intro e
    have e' : s[i + 1] = 34 := UInt8.toNat_inj.1 e
    rw [e'] at he; cases he
  have q2 : s[i + 1].toNat ≠ 92 := by
    intro e
    have e' : s[i + 1] = 92 := UInt8.toNat_inj.1 e
    rw [e'] at he; cases he
  have q3 : s[i + 1].toNat ≠ 47 := by
    intro e
    have e' : s[i + 1] = 47 := UInt8.toNat_inj.1 e
    rw [e'] at he; cases he
  have q4 : s[i + 1].toNat ≠ 98 := by
    intro e
    have e' : s[i + 1] = 98 := UInt8.toNat_inj.1 e
    rw [e'] at he; cases he
  have q5 : s[i + 1].toNat ≠ 102 := by
    intro e
    have e' : s[i + 1] = 102 := UInt8.toNat_inj.1 e
    rw [e'] at he; cases he
  have q6 : s[i + 1].toNat ≠ 110 := by
    intro e
    have e' : s[i + 1] = 110 := UInt8.toNat_inj.1 e
    rw [e'] at he; cases he
  have q7 : s[i + 1].toNat ≠ 114 := by
    intro e
    have e' : s[i + 1] = 114 := UInt8.toNat_inj.1 e
    rw [e'] at he; cases he
  have q8 : s[i + 1].toNat ≠ 116 := by
    intro e
    have e' : s[i + 1] = 116 := UInt8.toNat_inj.1 e
    rw [e'] at he; cases he
  have q9 : s[i + 1].toNat ≠ 117 := fun e => h117 (UInt8.toNat_inj.1 e)
  have e1 : ((s[i + 1].toNat : Int) == 34) = false := by simp; omega
  have e2 : ((s[i + 1].toNat : Int) == 92) = false := by simp; omega
  have e3 : ((s[i + 1].toNat : Int) == 47) = false := by simp; omega
  have e4 : ((s[i + 1].toNat : Int) == 98) = false := by simp; omega
  have e5 : ((s[i + 1].toNat : Int) == 102) = false := by simp; omega
  have e6 : ((s[i + 1].toNat : Int) == 110) = false := by simp; omega
  have e7 : ((s[i + 1].toNat : Int) == 114) = false := by simp; omega
  have e8 : ((s[i + 1].toNat : Int) == 116) = false := by simp; omega
  have e9 : ((s[i + 1].toNat : Int) == 117) = false := by simp; omega
  clear h hA1 q1 q2 q3 q4 q5 q6 q7 q8 q9 he h117
  go_enter Tryz.func40, Tryz.ntmps40
  go_wp2_with fail
  refine (here_some bp s (i + 1) d _ (by exact HA1.out) hi).mono ?_
  rintro e w' ⟨rfl, n1, rfl⟩
  go_wp2_with fail
  refine (fail_any bp s (i + 1) d 40 _ (by exact HA1.out)).mono ?_
  rintro e w' ⟨rfl, rfl⟩
  go_wp2_with fail
  exact ⟨rfl, rfl, by with_reducible repeat (first | assumption | apply Kept.drewN | apply Kept.set | exact Kept.refl _ _)⟩

set_option maxRecDepth 100000 in
set_option maxHeartbeats 1000000 in
theorem esc_end (bp : Nat) (s : ByteArray) (i d : Nat) (v : Value) (w : World) (h : At w bp s i d) (hs : s.size ≤ 4000) (hi : i + 1 = s.size) :
    Calls Tryz.prog 40 #[.pointer (some ⟨bp, 0, none⟩), v] w (Gave bp w 40 s.size) := by
  have c1 := h.c1
  have f1 := h.f1
  have hA1 := h.set1 s.size
  have HA1 := Lib.hid hA1
  have hii : (i : Int) + 1 = (s.size : Int) := by omega
  clear h hA1
  go_enter Tryz.func40, Tryz.ntmps40
  go_wp2_with fail
  refine (here_end bp s d _ (by exact HA1.out)).mono ?_
  rintro e w' ⟨rfl, n1, rfl⟩
  go_wp2_with fail
  exact ⟨rfl, rfl, by with_reducible repeat (first | assumption | apply Kept.drewN | apply Kept.set | exact Kept.refl _ _)⟩

set_option maxRecDepth 100000 in
set_option maxHeartbeats 1000000 in
theorem esc_u (B bp : Nat) (s : ByteArray) (i d : Nat) (v : Value) (acc : Bs) (w : World) (h : At w bp s i d) (hs : s.size ≤ 4000) (hi : i + 1 < s.size) (hi92 : (L s)[i]? = some 92) (hc : s[i + 1].toNat = 117)
    (hown : Own w B v acc) (hb : bp < B) (hacc : acc.length ≤ 20000) (hB : B ≤ w.heap.size) :
    Calls Tryz.prog 40 #[.pointer (some ⟨bp, 0, none⟩), v] w (EscPost B bp s w i d acc) := by
  have c1 := h.c1
  have f1 := h.f1
  have hA1 := h.set1 (i + 1)
  have HA1 := Lib.hid hA1
  have HO := Lib.hid hown
  have hcon := here_some bp s (i + 1) d _ hA1 hi
  rw [hc] at hcon
  have HC := Lib.hid hcon
  have HB := Lib.hid hB
  have HBP := Lib.hid hb
  have HR := Lib.hid (fun key k => esc_u_R hi92 (by rw [L_get hi]; exact congrArg some (UInt8.toNat_inj.1 hc)) key acc k)
  clear h hA1 hown hcon hc hi92
  go_enter Tryz.func40, Tryz.ntmps40
  go_wp2_with fail
  refine (HC.out).mono ?_
  rintro e w' ⟨rfl, n1, rfl⟩
  go_wp2_with fail
  refine (point_any bp s (i + 1 + 1) d _ (by exact At.set1 (HA1.out.drewN 0) (i + 1 + 1)) (by omega) hs).mono ?_
  rintro e w2 (⟨r, j, x, hij, hjs, hr, hsur, hx, ⟨rfl, A2, K2⟩, hR⟩ | ⟨p, hp, ⟨rfl, K2⟩, hR⟩)
  · have HX := Lib.hid hx
    have HS := Lib.hid hsur
    have HRR := Lib.hid hR
    have K2' : Kept bp w w2 := Kept.trans (by with_reducible repeat (first | assumption | apply Kept.drewN | apply Kept.set | exact Kept.refl _ _)) K2
    have hO2 : Own w2 B v acc := HO.out.keptK K2' HBP.out
    have hx1 : -2147483648 ≤ x := by omega
    have hx2 : x ≤ 2147483647 := by omega
    have hcon := Tryz.utf8_AppendRune_plain B v acc.length (bc acc) x hx1 hx2 w2 hO2 (by omega) (by have := K2'.size; have := HB.out; omega)
    have HAP := Lib.hid hcon
    have HO2 := Lib.hid hO2
    clear hx hR hcon K2 hO2 hsur
    go_wp2_with fail
    refine (HAP.out).mono ?_
    rintro e w3 ⟨v', rfl, hown3, o, hg⟩
    have HW := Lib.hid hown3
    have HG := Lib.hid hg
    clear hown3 hg
    go_wp2_with fail
    go_ret
    have hlt : ∀ k, v.ownBlock = some k → B ≤ k := fun k hk => (HO2.out.lt k hk).1
    have hwsz : B ≤ w2.heap.size := by have := K2'.size; have := HB.out; omega
    have hcells : Lib.runeCells x = bc (utf8 r) := by rw [HX.out]; exact runeCells_utf8 hr HS.out
    refine .inl ⟨_, acc ++ utf8 r, j, by omega, hjs, rfl, (A2.alloc o).grown HG.out (fun k hk => ?_), ?_, ?_, ?_, fun key k => (HR.out key k).trans (HRR.out key acc k)⟩
    · have := hlt k hk; have := HBP.out; omega
    · have := HW.out
      rw [hcells, bc_len] at this
      unfold Own
      rw [bc_append, List.length_append]
      exact this
    · refine KeptB.trans (K2'.toB HB.out) (KeptB.trans ?_ (KeptB.grown HG.out ?_ hlt))
      · exact (KeptB.refl _ _ _).alloc hwsz o
      · simp; omega
    · have := utf8_len r; rw [List.length_append]; omega
  · have HRR := Lib.hid hR
    clear hR
    go_wp2_with fail
    exact ⟨rfl, .inr ⟨p, hp, ⟨rfl, Kept.trans (by with_reducible repeat (first | assumption | apply Kept.drewN | apply Kept.set | exact Kept.refl _ _)) K2⟩, fun key k => (HR.out key k).trans (HRR.out key acc k)⟩⟩

theorem escaped_any (B bp : Nat) (s : ByteArray) (i d : Nat) (v : Value) (acc : Bs) (w : World) (h : At w bp s i d) (hs : s.size ≤ 4000) (hi0 : i < s.size) (hi92 : (L s)[i]? = some 92)
    (hown : Own w B v acc) (hb : bp < B) (hacc : acc.length ≤ 20000) (hB : B ≤ w.heap.size) :
    Calls Tryz.prog 40 #[.pointer (some ⟨bp, 0, none⟩), v] w (EscPost B bp s w i d acc) := by
  by_cases hi : i + 1 < s.size
  · have hl := L_get hi
    have simple : ∀ (c b : UInt8), s[i + 1] = c → c ≠ 117 → escByte c = some b →
        (Calls Tryz.prog 40 #[.pointer (some ⟨bp, 0, none⟩), v] w fun e w' => ∃ v', e = .returned v' ∧ At w' bp s (i + 1 + 1) d ∧ Own w' B v' (acc ++ [b]) ∧ KeptB B bp w w') →
        Calls Tryz.prog 40 #[.pointer (some ⟨bp, 0, none⟩), v] w (EscPost B bp s w i d acc) := by
      intro c b hc hu hb' hcall
      refine hcall.mono fun e w' hw => ?_
      obtain ⟨v', rfl, hA, hO, hK⟩ := hw
      exact .inl ⟨v', acc ++ [b], i + 1 + 1, by omega, by omega, rfl, hA, hO, hK, by rw [List.length_append]; simp, fun key k => esc_simple_R hi92 (by rw [hl, hc]) hu hb' key acc k⟩
    by_cases hu : s[i + 1] = 117
    · exact esc_u B bp s i d v acc w h hs hi hi92 (by rw [hu]; rfl) hown hb hacc hB
    by_cases h34 : s[i + 1] = 34
    · exact simple 34 34 h34 (by decide) (by decide) (esc_34 B bp s i d v acc w h hs hi (by rw [h34]; rfl) hown hb hacc hB)
    by_cases h92 : s[i + 1] = 92
    · exact simple 92 92 h92 (by decide) (by decide) (esc_92 B bp s i d v acc w h hs hi (by rw [h92]; rfl) hown hb hacc hB)
    by_cases h47 : s[i + 1] = 47
    · exact simple 47 47 h47 (by decide) (by decide) (esc_47 B bp s i d v acc w h hs hi (by rw [h47]; rfl) hown hb hacc hB)
    by_cases h98 : s[i + 1] = 98
    · exact simple 98 8 h98 (by decide) (by decide) (esc_98 B bp s i d v acc w h hs hi (by rw [h98]; rfl) hown hb hacc hB)
    by_cases h102 : s[i + 1] = 102
    · exact simple 102 12 h102 (by decide) (by decide) (esc_102 B bp s i d v acc w h hs hi (by rw [h102]; rfl) hown hb hacc hB)
    by_cases h110 : s[i + 1] = 110
    · exact simple 110 10 h110 (by decide) (by decide) (esc_110 B bp s i d v acc w h hs hi (by rw [h110]; rfl) hown hb hacc hB)
    by_cases h114 : s[i + 1] = 114
    · exact simple 114 13 h114 (by decide) (by decide) (esc_114 B bp s i d v acc w h hs hi (by rw [h114]; rfl) hown hb hacc hB)
    by_cases h116 : s[i + 1] = 116
    · exact simple 116 9 h116 (by decide) (by decide) (esc_116 B bp s i d v acc w h hs hi (by rw [h116]; rfl) hown hb hacc hB)
    refine (esc_none bp s i d v w h hs hi ⟨hu, ?_⟩).mono fun e w' hw => .inr ⟨i + 1, by omega, hw, fun key k => esc_none_R hi92 (fun c hc => ?_) key acc k⟩
    · simp only [escByte]; rw [if_neg (by rintro (e | e | e) <;> contradiction), if_neg (by assumption), if_neg (by assumption), if_neg (by assumption), if_neg (by assumption), if_neg (by assumption)]
    · rw [hl] at hc; cases hc
      refine ⟨hu, ?_⟩
      simp only [escByte]; rw [if_neg (by rintro (e | e | e) <;> contradiction), if_neg (by assumption), if_neg (by assumption), if_neg (by assumption), if_neg (by assumption), if_neg (by assumption)]
  · have he : i + 1 = s.size := by omega
    refine (esc_end bp s i d v w h hs he).mono fun e w' hw => .inr ⟨s.size, Nat.le_refl _, hw, fun key k => ?_⟩
    rw [← he]
    exact esc_none_R hi92 (fun c hc => by rw [he, L_end (Nat.le_refl _)] at hc; cases hc) key acc k

#print axioms escaped_any

end Jot
end Go.Proofs.YthgcnmdnjfajbaaGreatDoor
