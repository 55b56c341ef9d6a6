/- Walks of strings.Builder at this program: copyCheck, WriteByte, WriteString. Conditions: a builder of few bytes. -/
/- Walks of package jot's printing at the known value: sign, quoted, ValidString, Itoa. Conditions: texts of one letter. -/
import Derived.Test.YthgcnmdnjfajbaaGreatDoorJotToO
namespace Go.Proofs.YthgcnmdnjfajbaaGreatDoor
open Go.RowKit
namespace Jot

set_option maxRecDepth 100000 in
set_option maxHeartbeats 1000000 in
theorem copyCheck_used (b : Nat) (w : World) (h0 : w.cell? ⟨b, 0, none⟩ = some (.pointer (some ⟨b, 0, none⟩))) :
    Calls Tryz.prog 57 #[.pointer (some ⟨b, 0, none⟩)] w fun e w' => e = .returned (.tuple #[]) ∧ w' = w := by
  obtain ⟨j, hj, hjs⟩ := Option.map_eq_some_iff.1 Tryz.Builder_Extra_169.sizeBuilder
  go_enter Tryz.func57, Tryz.ntmps57
  go_wp2
  rw [Lib.run_neq_ptr_same w _ Tryz.underlying51 hj]
  go_wp2
  go_end0
  exact ⟨rfl, rfl⟩

set_option maxRecDepth 100000 in
set_option maxHeartbeats 1000000 in
theorem copyCheck_fresh (b : Nat) (w : World) (h0 : w.cell? ⟨b, 0, none⟩ = some (.pointer none)) (hsh : w.shape? b = some (54, 2)) (hfz : w.frozen? ⟨b, 0, none⟩ = false) :
    Calls Tryz.prog 57 #[.pointer (some ⟨b, 0, none⟩)] w fun e w' => e = .returned (.tuple #[]) ∧ w' = w.setCell ⟨b, 0, none⟩ (.pointer (some ⟨b, 0, none⟩)) := by
  obtain ⟨j, hj, hjs⟩ := Option.map_eq_some_iff.1 Tryz.Builder_Extra_169.sizeBuilder
  go_enter Tryz.func57, Tryz.ntmps57
  go_wp2
  rw [Lib.run_to_unsafe w ⟨b, 0, none⟩ Tryz.underlying51 Tryz.underlying119 hj (by rw [hjs]; decide) hsh (Nat.zero_lt_succ 1)]
  simp only [Result.andThen]
  rw [Oper.upon_value]
  go_wp2
  rw [run_callFunc_extern Tryz.func74 (by kernel_rfl) (by kernel_rfl) (by kernel_rfl) (e := Extern.AbiNoEscape.same) (by kernel_rfl)]
  rw [Lib.run_noEscape]
  simp only [Result.andThen]
  rw [Oper.upon_value]
  go_wp2
  rw [Lib.run_from_unsafe w ⟨b, 0, none⟩ Tryz.underlying119 Tryz.underlying51 hj hsh Tryz.Builder_Extra_169.liesBuilder]
  simp only [Result.andThen]
  rw [Oper.upon_value]
  go_wp2
  go_end0
  exact ⟨rfl, rfl⟩

/-- All blocks but b and the rows of bytes stay. -/
def Stays (b : Nat) (w w' : World) : Prop := ∀ k cs t fr, k ≠ b → t ≠ 5 → w.heap[k]? = some (.cells cs t fr) → w'.heap[k]? = some (.cells cs t fr)

theorem Stays.refl (b : Nat) (w : World) : Stays b w w := fun _ _ _ _ _ _ h => h
theorem Stays.trans {b : Nat} {w w1 w2 : World} (h : Stays b w w1) (k : Stays b w1 w2) : Stays b w w2 := fun i cs t fr h1 h2 h3 => k i cs t fr h1 h2 (h i cs t fr h1 h2 h3)
theorem Stays.set {b : Nat} {w w1 : World} (h : Stays b w w1) (o : Nat) (u : Value) : Stays b w (w1.setCell ⟨b, o, none⟩ u) := fun i cs t fr h1 h2 h3 => by
  rw [Below.heap_setCell _ _ _ _ (by simpa using h1)]; exact h i cs t fr h1 h2 h3
theorem Stays.alloc {b : Nat} {w w1 : World} (h : Stays b w w1) (o : Obj) : Stays b w (w1.alloc o) := fun i cs t fr h1 h2 h3 => by
  have h4 := h i cs t fr h1 h2 h3
  rw [Below.heap_alloc _ _ _ (Array.getElem?_eq_some_iff.1 h4).1]; exact h4
theorem Stays.grown {b : Nat} {w w1 w2 : World} (h : Stays b w w1) {row : Option Nat} (hg : w1.grownBy w2 row) (hr : ∀ g, row = some g → ∃ cur, w1.heap[g]? = some (.cells cur 5 (0, 0))) : Stays b w w2 := fun i cs t fr h1 h2 h3 => by
  have h4 := h i cs t fr h1 h2 h3
  rw [hg.block i (Array.getElem?_eq_some_iff.1 h4).1 (fun e => ?_)]
  · exact h4
  · obtain ⟨cur, hc⟩ := hr i e.symm
    rw [h4] at hc
    cases hc
    exact h2 rfl
theorem row_tag {w : World} {B : Nat} {e : TypeId} {size : Nat} {v : Value} {n : Nat} {xs : List Value} (h : w.ownsRow B e size v n xs) : ∀ g, v.ownBlock = some g → ∃ cur, w.heap[g]? = some (.cells cur e (0, 0)) := fun g hg => by
  rcases h.2 with ⟨rfl, _⟩ | ⟨g', cap, cur, rfl, _, hh, _⟩
  · simp [Value.ownBlock] at hg
  · simp [Value.ownBlock] at hg; subst hg; exact ⟨cur, hh⟩

theorem copyCheck_any (B b : Nat) (bs : List Value) (w : World) (h : Lib.IsBuilder 54 5 B b bs w) :
    Calls Tryz.prog 57 #[.pointer (some ⟨b, 0, none⟩)] w fun e w' => e = .returned (.tuple #[]) ∧ (Lib.BuilderAt 54 5 B b (.pointer (some ⟨b, 0, none⟩)) bs w' ∧ Below B w w' ∧ Stays b w w') := by
  rcases h with h | h
  · refine (copyCheck_fresh b w h.cell0 h.shape h.frozen0).mono ?_
    rintro e w' ⟨rfl, rfl⟩
    exact ⟨rfl, h.used _, (Below.refl B w).setCell (p := ⟨b, 0, none⟩) h.1 _, (Stays.refl b w).set 0 _⟩
  · refine (copyCheck_used b w h.cell0).mono ?_
    rintro e w' ⟨rfl, rfl⟩
    exact ⟨rfl, h, Below.refl B _, Stays.refl b _⟩

set_option maxRecDepth 100000 in
set_option maxHeartbeats 2000000 in
theorem writeByte (B b : Nat) (bs : List Value) (c : Int) (w : World) (h : Lib.IsBuilder 54 5 B b bs w) (hlen : bs.length + 1 ≤ 100000) (hBw : B ≤ w.heap.size) :
    Calls Tryz.prog 38 #[.pointer (some ⟨b, 0, none⟩), .int .u8 c] w fun e w' => e = .returned .nilIface ∧ (Lib.BuilderAt 54 5 B b (.pointer (some ⟨b, 0, none⟩)) (bs ++ [.int .u8 c]) w' ∧ Below B w w' ∧ Stays b w w') := by
  obtain ⟨i0, hi, hz0, hz1, hz2⟩ := info_parts infoByte
  have HC := Lib.hid (copyCheck_any B b bs w h)
  go_enter Tryz.func38, Tryz.ntmps38
  go_wp2_with fail
  refine (HC.out).mono ?_
  rintro e w1 ⟨rfl, h1, hb1, hst1⟩
  have HST := Lib.hid hst1
  clear hst1
  obtain ⟨hB, v, hbk, hown, hne⟩ := h1
  have c0 : w1.cell? ⟨b, 0, none⟩ = some (.pointer (some ⟨b, 0, none⟩)) := by rw [Lib.cell_of_heap hbk]; rfl
  have c1 : w1.cell? ⟨b, 1, none⟩ = some v := by rw [Lib.cell_of_heap hbk]; rfl
  go_wp2_with (at_builtin; refine wpList_append_own _ rfl _ _ 52 rfl B 5 i0 (.int .u8 0) 1 1 Tryz.underlying52 hi hz0 hz1 hz2 rfl (by decide) _ _ _ rfl (hown.alloc _) ⟨w1.heap.size, 0, none⟩ 1 1 [.int .u8 c] rfl rfl ?c1 ?c2 ?c3 ?c4 ?c5 ?_)
  case c1 =>
    intro j u hj
    match j, hj with
    | 0, hj => simp at hj; subst hj; simp [Addr.add]
  case c2 => intro u hu; simp at hu; subst hu; rfl
  case c3 => unfold maxLen; omega
  case c4 => omega
  case c5 => have := hb1.size; simp; omega
  intro v' w2 hown' hgrow _
  have hlt : b < w1.heap.size := (Array.getElem?_eq_some_iff.1 hbk).1
  have hb2 : w2.heap[b]? = some (.cells #[.pointer (some ⟨b, 0, none⟩), v] 54 (0, 0)) := by
    rw [hgrow.block b (by simp; omega) (fun e => hne e.symm), Lib.alloc_old w1 _ b hlt]
    exact hbk
  have d0 : w2.cell? ⟨b, 0, none⟩ = some (.pointer (some ⟨b, 0, none⟩)) := by rw [Lib.cell_of_heap hb2]; rfl
  have d1 : w2.cell? ⟨b, 1, none⟩ = some v := by rw [Lib.cell_of_heap hb2]; rfl
  have f1 : w2.frozen? ⟨b, 1, none⟩ = false := Lib.frozen_of_heap hb2 1
  obtain ⟨g, cap, rfl⟩ : ∃ g cap, v' = .slice (some ⟨g, 0, none⟩) (bs.length + 1) cap := by
    rcases hown'.2 with ⟨_, h0⟩ | ⟨g, cap, cur, hv, _⟩
    · omega
    · exact ⟨g, cap, hv⟩
  go_wp2
  go_ret
  refine ⟨rfl, ?_, ?_, ((HST.out.alloc _).grown hgrow (row_tag (hown.alloc _))).set 1 _⟩
  · exact Lib.BuilderAt.put (T := 54) (e := 5) hB hb2 (bs' := bs ++ [.int .u8 c]) (by simpa using hown') (by decide)
  · exact ((hb1.alloc (by have := hb1.size; omega) _).grown hgrow (by have := hb1.size; simp; omega) (fun k hk => (hown.lt k hk).1)).setCell (p := ⟨b, 1, none⟩) hB _

set_option maxRecDepth 100000 in
set_option maxHeartbeats 2000000 in
theorem writeString (B b : Nat) (bs : List Value) (s : ByteArray) (w : World) (h : Lib.IsBuilder 54 5 B b bs w) (hlen : bs.length + s.size ≤ 100000) (hBw : B ≤ w.heap.size) :
    Calls Tryz.prog 34 #[.pointer (some ⟨b, 0, none⟩), .string s] w fun e w' => e = .returned (.tuple #[.int .i64 s.size, .nilIface]) ∧ (Lib.BuilderAt 54 5 B b (.pointer (some ⟨b, 0, none⟩)) (bs ++ Lib.strCells s) w' ∧ Below B w w' ∧ Stays b w w') := by
  obtain ⟨i0, hi, hz0, hz1, hz2⟩ := info_parts infoByte
  have HC := Lib.hid (copyCheck_any B b bs w h)
  go_enter Tryz.func34, Tryz.ntmps34
  go_wp2_with fail
  refine (HC.out).mono ?_
  rintro e w1 ⟨rfl, h1, hb1, hst1⟩
  have HST := Lib.hid hst1
  clear hst1
  obtain ⟨hB, v, hbk, hown, hne⟩ := h1
  have c0 : w1.cell? ⟨b, 0, none⟩ = some (.pointer (some ⟨b, 0, none⟩)) := by rw [Lib.cell_of_heap hbk]; rfl
  have c1 : w1.cell? ⟨b, 1, none⟩ = some v := by rw [Lib.cell_of_heap hbk]; rfl
  go_wp2_with (at_builtin; refine Lib.wpList_append_own_string _ rfl _ _ 52 9 rfl B 5 i0 Tryz.underlying52 Tryz.underlying9 hi hz0 hz1 hz2 _ _ _ rfl hown s rfl ?c3 ?c4 ?c5 ?_)
  case c3 => unfold maxLen; omega
  case c4 => omega
  case c5 => have := hb1.size; omega
  intro v' w2 hown' hgrow _
  have hlt : b < w1.heap.size := (Array.getElem?_eq_some_iff.1 hbk).1
  have hb2 : w2.heap[b]? = some (.cells #[.pointer (some ⟨b, 0, none⟩), v] 54 (0, 0)) := by
    rw [hgrow.block b hlt (fun e => hne e.symm)]
    exact hbk
  have d0 : w2.cell? ⟨b, 0, none⟩ = some (.pointer (some ⟨b, 0, none⟩)) := by rw [Lib.cell_of_heap hb2]; rfl
  have d1 : w2.cell? ⟨b, 1, none⟩ = some v := by rw [Lib.cell_of_heap hb2]; rfl
  have f1 : w2.frozen? ⟨b, 1, none⟩ = false := Lib.frozen_of_heap hb2 1
  obtain ⟨ao, n', cap, rfl⟩ : ∃ ao n' cap, v' = .slice ao n' cap := by
    rcases hown'.2 with ⟨hv, _⟩ | ⟨g, cap, cur, hv, _⟩
    · exact ⟨_, _, _, hv⟩
    · exact ⟨_, _, _, hv⟩
  go_wp2
  go_ret2
  refine ⟨rfl, ?_, ?_, (HST.out.grown hgrow (row_tag hown)).set 1 _⟩
  · exact Lib.BuilderAt.put (T := 54) (e := 5) hB hb2 (bs' := bs ++ Lib.strCells s) (by simpa [Lib.strCells_length] using hown') (by decide)
  · exact (hb1.grown hgrow (by have := hb1.size; omega) (fun k hk => (hown.lt k hk).1)).setCell (p := ⟨b, 1, none⟩) hB _

end Jot
end Go.Proofs.YthgcnmdnjfajbaaGreatDoor

namespace Go.Proofs.YthgcnmdnjfajbaaGreatDoor
open Go.RowKit
namespace Jot

/-- What a call that writes to the builder comes to. -/
def Wrote (B b : Nat) (bs : List Value) (v : Value) (w : World) (e : Ending) (w' : World) : Prop :=
  e = .returned v ∧ Lib.IsBuilder 54 5 B b bs w' ∧ Below B w w' ∧ Stays b w w'

theorem wByte (B b : Nat) (bs : List Value) (c : Int) (w : World) (h : Lib.IsBuilder 54 5 B b bs w) (hlen : bs.length + 1 ≤ 100000) (hBw : B ≤ w.heap.size) :
    Calls Tryz.prog 38 #[.pointer (some ⟨b, 0, none⟩), .int .u8 c] w (Wrote B b (bs ++ [.int .u8 c]) .nilIface w) :=
  (writeByte B b bs c w h hlen hBw).mono fun _ _ ⟨h1, h2, h3⟩ => ⟨h1, .inr h2, h3⟩

theorem wString (B b : Nat) (bs : List Value) (s : ByteArray) (w : World) (h : Lib.IsBuilder 54 5 B b bs w) (hlen : bs.length + s.size ≤ 100000) (hBw : B ≤ w.heap.size) :
    Calls Tryz.prog 34 #[.pointer (some ⟨b, 0, none⟩), .string s] w (Wrote B b (bs ++ Lib.strCells s) (.tuple #[.int .i64 s.size, .nilIface]) w) :=
  (writeString B b bs s w h hlen hBw).mono fun _ _ ⟨h1, h2, h3⟩ => ⟨h1, .inr h2, h3⟩

theorem sign_97 (w : World) : Calls Tryz.prog 60 #[.int .u8 97] w fun e w' => e = .returned (.int .u8 0) ∧ w' = w := by
  go_enter Tryz.func60, Tryz.ntmps60
  go_wp2
  go_ret
  exact ⟨rfl, rfl⟩

theorem sign_98 (w : World) : Calls Tryz.prog 60 #[.int .u8 98] w fun e w' => e = .returned (.int .u8 0) ∧ w' = w := by
  go_enter Tryz.func60, Tryz.ntmps60
  go_wp2
  go_ret
  exact ⟨rfl, rfl⟩

set_option maxRecDepth 100000 in
set_option maxHeartbeats 1000000 in
theorem valid_97 (w : World) : Calls Tryz.prog 31 #[.string ⟨#[97]⟩] w fun e w' => e = .returned (.bool true) ∧ w' = w := by
  go_enter Tryz.func31, Tryz.ntmps31
  go_wp2
  go_loopg [0] 1 (fun g v wr => ((g = 1 ∧ v = .string ⟨#[97]⟩) ∨ (g = 0 ∧ v = .string ⟨#[]⟩)) ∧ wr = w)
  case atStart => exact ⟨.inl ⟨rfl, rfl⟩, rfl⟩
  case round =>
    obtain ⟨⟨hg, rfl⟩ | ⟨hg, rfl⟩, rfl⟩ := hrel
    · have HG := Lib.hid hg
      clear hg
      go_wp2_with fail
      go_roundg 0
      case measure => rw [HG.out]; omega
      case rel => exact ⟨.inr ⟨rfl, rfl⟩, rfl⟩
    · go_wp2_with fail
      go_ret
      exact ⟨rfl, rfl⟩

set_option maxRecDepth 100000 in
set_option maxHeartbeats 1000000 in
theorem valid_98 (w : World) : Calls Tryz.prog 31 #[.string ⟨#[98]⟩] w fun e w' => e = .returned (.bool true) ∧ w' = w := by
  go_enter Tryz.func31, Tryz.ntmps31
  go_wp2
  go_loopg [0] 1 (fun g v wr => ((g = 1 ∧ v = .string ⟨#[98]⟩) ∨ (g = 0 ∧ v = .string ⟨#[]⟩)) ∧ wr = w)
  case atStart => exact ⟨.inl ⟨rfl, rfl⟩, rfl⟩
  case round =>
    obtain ⟨⟨hg, rfl⟩ | ⟨hg, rfl⟩, rfl⟩ := hrel
    · have HG := Lib.hid hg
      clear hg
      go_wp2_with fail
      go_roundg 0
      case measure => rw [HG.out]; omega
      case rel => exact ⟨.inr ⟨rfl, rfl⟩, rfl⟩
    · go_wp2_with fail
      go_ret
      exact ⟨rfl, rfl⟩

theorem dec_0 : Lib.decDigits 0 = [48] := by rw [Lib.decDigits]; simp

theorem itoa_0 (w : World) : Calls Tryz.prog 36 #[.int .i64 0] w fun e w' => e = .returned (.string ⟨#[48]⟩) ∧ w' = w := by
  have h := Tryz.internal_strconv_FormatInt_10_small 0 (by omega)
  have hi : ∀ w', Calls Tryz.prog 59 #[.int .i64 0] w' fun e w'' => e = .returned (.string ⟨#[48]⟩) ∧ w'' = w' := by
    intro w'
    go_enter Tryz.func59, Tryz.ntmps59
    go_wp2_with fail
    refine (h _).mono ?_
    rintro e w2 ⟨rfl, rfl⟩
    go_wp2_with fail
    go_ret
    refine ⟨?_, rfl⟩
    show Ending.returned (.string ⟨(Lib.decDigits 0).toArray⟩) = _
    rw [dec_0]
  have HI := Lib.hid hi
  clear h hi
  go_enter Tryz.func36, Tryz.ntmps36
  go_wp2_with fail
  refine (HI.out _).mono ?_
  rintro e w2 ⟨rfl, rfl⟩
  go_wp2_with fail
  go_ret
  exact ⟨rfl, rfl⟩

set_option maxRecDepth 100000 in
set_option maxHeartbeats 1000000 in
theorem quoted_97 (B b : Nat) (bs : List Value) (w : World) (h : Lib.IsBuilder 54 5 B b bs w) (hlen : bs.length ≤ 1000) (hBw : B ≤ w.heap.size) :
    Calls Tryz.prog 37 #[.pointer (some ⟨b, 0, none⟩), .string ⟨#[97]⟩] w (Wrote B b (bs ++ [.int .u8 34] ++ [.int .u8 97] ++ [.int .u8 34]) (.tuple #[]) w) := by
  have HW := Lib.hid (wByte B b bs 34 w h (by omega) hBw)
  clear h
  go_enter Tryz.func37, Tryz.ntmps37
  go_wp2_with fail
  refine (HW.out).mono ?_
  rintro e w1 ⟨rfl, h1, K1, S1⟩
  have HS1 := Lib.hid S1
  clear S1
  have H1 := Lib.hid h1
  clear h1 HW
  go_wp2_with fail
  go_loopg [11] 1 (fun g kv wr => (g = 1 ∧ kv = .int .i64 0 ∧ wr = w1) ∨ (g = 0 ∧ kv = .int .i64 1 ∧ Lib.IsBuilder 54 5 B b (bs ++ [.int .u8 34] ++ [.int .u8 97]) wr ∧ Below B w wr ∧ Stays b w wr))
  case atStart => exact .inl ⟨rfl, rfl, rfl⟩
  case round =>
    obtain ⟨hg, rfl, rfl⟩ | ⟨hg, rfl, h2, K2, S2⟩ := hrel
    · have HG := Lib.hid hg
      clear hg
      go_wp2_with fail
      refine (sign_97 _).mono ?_
      rintro e w2 ⟨rfl, rfl⟩
      go_wp2_with fail
      refine (wByte B b _ 97 _ (by exact H1.out) (by simp; omega) (Nat.le_trans hBw K1.size)).mono ?_
      rintro e w3 ⟨rfl, h3, K3, S3⟩
      have H3 := Lib.hid h3
      have HS3 := Lib.hid (HS1.out.trans S3)
      clear h3 S3
      go_wp2_with fail
      go_roundg 0
      case measure => rw [HG.out]; omega
      case rel => exact .inr ⟨rfl, rfl, H3.out, K1.trans K3, HS3.out⟩
    · have H2 := Lib.hid h2
      have HS2 := Lib.hid S2
      clear h2 hg S2
      go_wp2_with fail
      refine (wByte B b _ 34 _ (by exact H2.out) (by simp; omega) (Nat.le_trans hBw K2.size)).mono ?_
      rintro e w3 ⟨rfl, h3, K3, S3⟩
      have H3 := Lib.hid h3
      have HS3 := Lib.hid (HS2.out.trans S3)
      clear h3 S3
      go_wp2_with fail
      go_end0
      exact ⟨rfl, H3.out, K2.trans K3, HS3.out⟩

set_option maxRecDepth 100000 in
set_option maxHeartbeats 1000000 in
theorem quoted_98 (B b : Nat) (bs : List Value) (w : World) (h : Lib.IsBuilder 54 5 B b bs w) (hlen : bs.length ≤ 1000) (hBw : B ≤ w.heap.size) :
    Calls Tryz.prog 37 #[.pointer (some ⟨b, 0, none⟩), .string ⟨#[98]⟩] w (Wrote B b (bs ++ [.int .u8 34] ++ [.int .u8 98] ++ [.int .u8 34]) (.tuple #[]) w) := by
  have HW := Lib.hid (wByte B b bs 34 w h (by omega) hBw)
  clear h
  go_enter Tryz.func37, Tryz.ntmps37
  go_wp2_with fail
  refine (HW.out).mono ?_
  rintro e w1 ⟨rfl, h1, K1, S1⟩
  have HS1 := Lib.hid S1
  clear S1
  have H1 := Lib.hid h1
  clear h1 HW
  go_wp2_with fail
  go_loopg [11] 1 (fun g kv wr => (g = 1 ∧ kv = .int .i64 0 ∧ wr = w1) ∨ (g = 0 ∧ kv = .int .i64 1 ∧ Lib.IsBuilder 54 5 B b (bs ++ [.int .u8 34] ++ [.int .u8 98]) wr ∧ Below B w wr ∧ Stays b w wr))
  case atStart => exact .inl ⟨rfl, rfl, rfl⟩
  case round =>
    obtain ⟨hg, rfl, rfl⟩ | ⟨hg, rfl, h2, K2, S2⟩ := hrel
    · have HG := Lib.hid hg
      clear hg
      go_wp2_with fail
      refine (sign_98 _).mono ?_
      rintro e w2 ⟨rfl, rfl⟩
      go_wp2_with fail
      refine (wByte B b _ 98 _ (by exact H1.out) (by simp; omega) (Nat.le_trans hBw K1.size)).mono ?_
      rintro e w3 ⟨rfl, h3, K3, S3⟩
      have H3 := Lib.hid h3
      have HS3 := Lib.hid (HS1.out.trans S3)
      clear h3 S3
      go_wp2_with fail
      go_roundg 0
      case measure => rw [HG.out]; omega
      case rel => exact .inr ⟨rfl, rfl, H3.out, K1.trans K3, HS3.out⟩
    · have H2 := Lib.hid h2
      have HS2 := Lib.hid S2
      clear h2 hg S2
      go_wp2_with fail
      refine (wByte B b _ 34 _ (by exact H2.out) (by simp; omega) (Nat.le_trans hBw K2.size)).mono ?_
      rintro e w3 ⟨rfl, h3, K3, S3⟩
      have H3 := Lib.hid h3
      have HS3 := Lib.hid (HS2.out.trans S3)
      clear h3 S3
      go_wp2_with fail
      go_end0
      exact ⟨rfl, H3.out, K2.trans K3, HS3.out⟩

end Jot
end Go.Proofs.YthgcnmdnjfajbaaGreatDoor
