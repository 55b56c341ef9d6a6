/- Walk over the reference's reader: read. Conditions: none but the text's length. -/
/- Walk over the reference: Rest. Conditions: a text that is read without a fault. -/
import Derived.Test.YthgcnmdnjfajbaaGreatDoorRefQ
import Derived.Test.YthgcnmdnjfajbaaGreatDoorJotRun
namespace Go.Proofs.YthgcnmdnjfajbaaGreatDoor
open Go.RowKit
namespace Jot

/-- What read says: what is wrong, and where. -/
def refRead (l : Bs) : Nat × Nat := match readS l with | .ok _ => (0, 0) | .bad e p => (e, p)

def RRead (s : ByteArray) (w : World) (e : Ending) (w' : World) : Prop :=
  ∃ (k n : Int) (t : Bs) (an : Option Addr) (ln cn : Nat) (ai : Option Addr) (li ci : Nat), e = .returned (.tuple #[.agg #[.int .i64 k, .int .i64 n, str t, .slice an ln cn, .slice ai li ci], .int .i64 ((refRead (L s)).1 : Int), .int .i64 ((refRead (L s)).2 : Int)]) ∧ KeptB w.heap.size w.heap.size w w'

theorem VB.keptN {w wr w' : World} {bp : Nat} (h : VB w bp wr) (hbp : w.heap.size ≠ bp) (K : Kept bp wr w') : VB w bp w' :=
  ⟨h.kept.trans K, (K.block _ (Array.getElem?_eq_some_iff.1 h.b0).1 hbp).trans h.b0⟩

theorem VB.fiveN {w wr : World} {bp : Nat} (h : VB w bp wr) (u0 u1 u2 u3 u4 : Value) : Kept bp w (setFive wr w.heap.size u0 u1 u2 u3 u4) :=
  ((((h.kept.setNew (Nat.le_refl _) _).setNew (Nat.le_refl _) _).setNew (Nat.le_refl _) _).setNew (Nat.le_refl _) _).setNew (Nat.le_refl _) _

theorem Kept.all {w w' : World} {bp : Nat} (h : Kept bp w w') (hbp : w.heap.size ≤ bp) : KeptB w.heap.size w.heap.size w w' :=
  ⟨h.os, h.tape, h.output, h.size, fun k hk _ => h.block k hk (by omega)⟩

theorem RAt.new {w : World} {o : Obj} {b : Nat} {s : ByteArray} (h : w.heap.size = b) (ho : o = .cells #[.string s, .int .i64 0, .int .i64 0, .int .i64 0] 69 (0, 0)) : RAt (w.alloc o) b s 0 0 0 := by
  subst h; subst ho; exact heap_alloc_new _ _

theorem after_end {l : Bs} {j : Nat} (h : l.length ≤ j) (v : JV) : R l j ⟨.after v, []⟩ = .ok v := by rw [R_end h]; rfl
theorem after_more {l : Bs} {j : Nat} {c : UInt8} (h : l[j]? = some c) (hb : isBlank c = false) (v : JV) : R l j ⟨.after v, []⟩ = .bad eForm j := by
  rw [R_bad h (e := eForm)]; simp [δ, dAfter, hb]

set_option maxRecDepth 100000 in
set_option maxHeartbeats 2000000 in
theorem r_read (s : ByteArray) (hs : s.size ≤ big) (w : World) : Calls Tryz.prog 14 #[.string s] w (RRead s w) := by
  have HS := Lib.hid hs
  unfold big at hs
  have hz : refRead (L s) = refRead (L s) := rfl
  have HVB : Hid (VB w (w.heap.size + 1) ((w.alloc (.cells #[.int .i64 0, .int .i64 0, .string ⟨#[]⟩, .slice none 0 0, .slice none 0 0] 26 (0, 0))).alloc (.cells #[.string s, .int .i64 0, .int .i64 0, .int .i64 0] 69 (0, 0)))) :=
    ⟨((Kept.refl _ _).alloc _).alloc _, (Below.heap_alloc _ _ _ (by simp)).trans (heap_alloc_new _ _)⟩
  have HA : Hid (RAt ((w.alloc (.cells #[.int .i64 0, .int .i64 0, .string ⟨#[]⟩, .slice none 0 0, .slice none 0 0] 26 (0, 0))).alloc (.cells #[.string s, .int .i64 0, .int .i64 0, .int .i64 0] 69 (0, 0))) (w.heap.size + 1) s 0 0 0) := RAt.new (by simp) rfl
  clear hz
  go_enter Tryz.func14, Tryz.ntmps14
  go_wp2_with fail
  generalize (w.alloc (.cells #[.int .i64 0, .int .i64 0, .string ⟨#[]⟩, .slice none 0 0, .slice none 0 0] 26 (0, 0))).alloc (.cells #[.string s, .int .i64 0, .int .i64 0, .int .i64 0] 69 (0, 0)) = wa at *
  refine (r_blanks (w.heap.size + 1) s 0 0 0 _ (by exact HA.out) (Nat.zero_le _) HS.out).mono ?_
  rintro e w1 ⟨j0, hj0, rfl, A1, K1⟩
  have HA1 := Lib.hid A1
  have HB0 := Lib.hid hj0
  have hj0s := hj0.2.1
  have HV1 := Lib.hid (HVB.out.keptN (by omega) K1)
  clear A1 hj0 K1 HVB HA
  go_wp2_with fail
  refine (r_value s HS.out 16 0 rfl (w.heap.size + 1) j0 _ (by exact HA1.out) hj0s HB0.out.2.2.2).mono ?_
  rintro e w2 (⟨k, n, t, an, ln, cn, ai, li, ci, jv, j1, hjj, hj1, ⟨rfl, A2, K2⟩, hR⟩ | ⟨k, n, t, an, ln, cn, ai, li, ci, q, p, hp, ⟨rfl, ⟨d2, A2⟩, K2⟩, hR⟩)
  · have hR0 : readS (L s) = R (L s) j1 ⟨.after jv, []⟩ := by
      unfold readS start
      rw [HB0.out.R (blank_val _)]
      exact hR [] rfl
    have HR0 := Lib.hid hR0
    have HA2 := Lib.hid (A2.alloc (.cells #[.int .i64 k, .int .i64 n, .string ⟨t.toArray⟩, .slice an ln cn, .slice ai li ci] 26 (0, 0)))
    have HV2 := Lib.hid ((HV1.out.keptN (by omega) K2).keptN (by omega) ((Kept.refl _ _).alloc (.cells #[.int .i64 k, .int .i64 n, .string ⟨t.toArray⟩, .slice an ln cn, .slice ai li ci] 26 (0, 0))))
    have HX := Lib.hid (heap_alloc_new w2 (.cells #[.int .i64 k, .int .i64 n, .string ⟨t.toArray⟩, .slice an ln cn, .slice ai li ci] 26 (0, 0)))
    have hx : w2.heap.size ≠ w.heap.size + 1 := by have := A2.lt; omega
    clear A2 K2 hR hR0 HV1 HA1
    unfold str
    go_wp2_with fail
    generalize w2.alloc (.cells #[.int .i64 k, .int .i64 n, .string ⟨t.toArray⟩, .slice an ln cn, .slice ai li ci] 26 (0, 0)) = wx at *
    refine (r_blanks (w.heap.size + 1) s j1 0 0 _ (by exact HA2.out) hj1 HS.out).mono ?_
    rintro e w3 ⟨j2, hj2, rfl, A3, K3⟩
    have HA3 := Lib.hid A3
    have HB2 := Lib.hid hj2
    have hj2s := hj2.2.1
    have HX3 := Lib.hid ((K3.block _ (Array.getElem?_eq_some_iff.1 HX.out).1 hx).trans HX.out)
    have HV3 := Lib.hid (HV2.out.keptN (by omega) K3)
    have HR2 := Lib.hid (show readS (L s) = R (L s) j2 ⟨.after jv, []⟩ by rw [HR0.out, HB2.out.R (blank_after _ _)])
    obtain ⟨⟨e0, e1, e2, e3, e4⟩, ⟨f0, f1, f2, f3, f4⟩⟩ := HV3.out.facts
    obtain ⟨x0, x1, x2, x3, x4⟩ := five_cells HX3.out
    have c1 := HA3.out.c1
    clear A3 hj2 K3 HX HV2 HA2 HR0
    by_cases hlt : j2 < s.size
    · have hlt' : (j2 : Int) < s.size := by omega
      have hF : refRead (L s) = (40, j2) := by
        unfold refRead
        rw [HR2.out, after_more (L_get hlt) (HB2.out.2.2.2 _ (L_get hlt))]
        rfl
      have HF := Lib.hid hF
      clear hF
      go_wp2_with fail
      go_region
      all_goals
        go_wp2_with fail
        refine bodyPost_ret (by simp [results, Tryz.results14, go_sem, e0, e1, e2, e3, e4]; try rfl) rfl ?_
        refine ⟨0, 0, [], none, 0, 0, none, 0, 0, ?_, KeptB.drew ((HV3.out.fiveN _ _ _ _ _).all (by omega))⟩
        rw [HF.out]; rfl
    · have hle : decide ((j2 : Int) < s.size) = false := by simp; omega
      have hlt' : ¬ j2 < s.size := by omega
      have hF : refRead (L s) = (0, 0) := by
        unfold refRead
        rw [HR2.out, after_end (by rw [L_len]; omega)]
      have HF := Lib.hid hF
      clear hF
      go_wp2_with fail
      refine bodyPost_ret (by simp [results, Tryz.results14, go_sem, e0, e1, e2, e3, e4]; try rfl) rfl ?_
      refine ⟨k, n, t, an, ln, cn, ai, li, ci, ?_, (HV3.out.fiveN _ _ _ _ _).all (by omega)⟩
      rw [HF.out]; rfl
  · have hF : refRead (L s) = (q, p) := by
      unfold refRead readS start
      rw [HB0.out.R (blank_val _), hR [] rfl]
    have HF := Lib.hid hF
    clear hF
    have HA2 := Lib.hid (A2.alloc (.cells #[.int .i64 k, .int .i64 n, .string ⟨t.toArray⟩, .slice an ln cn, .slice ai li ci] 26 (0, 0)))
    have HV2 := Lib.hid ((HV1.out.keptN (by omega) K2).keptN (by omega) ((Kept.refl _ _).alloc (.cells #[.int .i64 k, .int .i64 n, .string ⟨t.toArray⟩, .slice an ln cn, .slice ai li ci] 26 (0, 0))))
    clear A2 K2 hR HV1 HA1
    unfold str
    go_upto_region 5 with fail
    generalize w2.alloc (.cells #[.int .i64 k, .int .i64 n, .string ⟨t.toArray⟩, .slice an ln cn, .slice ai li ci] 26 (0, 0)) = wx at *
    obtain ⟨⟨e0, e1, e2, e3, e4⟩, ⟨f0, f1, f2, f3, f4⟩⟩ := HV2.out.facts
    have c1 := HA2.out.c1
    have c2 := HA2.out.c2
    go_region
    all_goals
      go_wp2_with fail
      refine bodyPost_ret (by simp [results, Tryz.results14, go_sem, e0, e1, e2, e3, e4]; try rfl) rfl ?_
      refine ⟨0, 0, [], none, 0, 0, none, 0, 0, ?_, KeptB.drew ((HV2.out.fiveN _ _ _ _ _).all (by omega))⟩
      rw [HF.out]; rfl

end Jot
end Go.Proofs.YthgcnmdnjfajbaaGreatDoor

namespace Go.Proofs.YthgcnmdnjfajbaaGreatDoor
open Go.RowKit
namespace Jot

def RRead2 (er p : Int) (w : World) (e : Ending) (w' : World) : Prop :=
  ∃ (k n : Int) (t : Bs) (an : Option Addr) (ln cn : Nat) (ai : Option Addr) (li ci : Nat), e = .returned (.tuple #[.agg #[.int .i64 k, .int .i64 n, str t, .slice an ln cn, .slice ai li ci], .int .i64 er, .int .i64 p]) ∧ KeptB w.heap.size w.heap.size w w'

theorem r_read2 (s : ByteArray) (hs : s.size ≤ big) (er p : Nat) (er' p' : Int) (h : refRead (L s) = (er, p)) (he : (er : Int) = er') (hp : (p : Int) = p') (w : World) : Calls Tryz.prog 14 #[.string s] w (RRead2 er' p' w) :=
  (r_read s hs w).mono fun e w' ⟨k, n, t, an, ln, cn, ai, li, ci, hee, hk⟩ => ⟨k, n, t, an, ln, cn, ai, li, ci, by rw [hee, h, ← he, ← hp], hk⟩

def Step.ok : Step → Prop
  | .go _ => True
  | .bad e => e ≠ 0

theorem okForm : Step.ok (.bad eForm) := by show (40 : Nat) ≠ 0; decide
theorem okDeep : Step.ok (.bad eDeep) := by show (41 : Nat) ≠ 0; decide
theorem okName : Step.ok (.bad eName) := by show (42 : Nat) ≠ 0; decide
theorem okValue : Step.ok (.bad eValue) := by show (43 : Nat) ≠ 0; decide

theorem ok_dVal (c : UInt8) (k : List Fr) : Step.ok (dVal c k) := by
  unfold dVal
  repeat' split
  all_goals first | exact trivial | exact okForm | exact okDeep

theorem ok_dAfter (v : JV) (c : UInt8) (k : List Fr) : Step.ok (dAfter v c k) := by
  unfold dAfter
  repeat' split
  all_goals first | exact trivial | exact okForm

theorem ok_dText (key : Bool) (t : TM) (acc : Bs) (c : UInt8) (k : List Fr) : Step.ok (dText key t acc c k) := by
  cases t <;> simp only [dText]
  all_goals
    repeat' split
    all_goals first | exact trivial | exact okForm | exact okName

theorem ok_step (s : St) (c : UInt8) : Step.ok (δ s c) := by
  obtain ⟨mode, k⟩ := s
  cases mode with
  | val => exact ok_dVal c k
  | after v => exact ok_dAfter v c k
  | text key t acc => exact ok_dText key t acc c k
  | word r v =>
    cases r with
    | nil => exact ok_dAfter v c k
    | cons x r =>
      simp only [δ]
      repeat' split
      all_goals first | exact trivial | exact okForm
  | arr0 | obj0 | key | colon | minus | num =>
    simp only [δ]
    repeat' split
    all_goals first | exact trivial | exact okForm | exact okValue | exact ok_dVal _ _ | exact ok_dAfter _ _ _

theorem bad_ne {s : St} {c : UInt8} {e : Err} (h : δ s c = .bad e) : e ≠ 0 := by
  have := ok_step s c
  rw [h] at this
  exact this

theorem refRead_to {l : Bs} {st : St} (h : runTo start l = some st) : refRead l = if fin st then (0, 0) else (40, l.length) := by
  unfold refRead readS R
  rw [List.drop_zero, run_to 0 h, Nat.zero_add]
  cases hf : fin st with
  | true => obtain ⟨v, hv⟩ := fin_iff.1 hf; rw [hv]; rfl
  | false => rw [fin_false hf]; rfl

theorem refRead_bad {l : Bs} {st : St} {m : UInt8} {e : Err} (h : runTo start l = some st) (hd : δ st m = .bad e) : refRead (l ++ [m]) = (e, l.length) := by
  unfold refRead readS R
  rw [List.drop_zero, run_bad_at 0 h hd, Nat.zero_add]

def RRest (s : ByteArray) (w : World) (e : Ending) (w' : World) : Prop :=
  ∃ (out : Bs) (st' : St), e = .returned (str out) ∧ KeptB w.heap.size w.heap.size w w' ∧ runTo start (L s ++ out) = some st' ∧ fin st' = true ∧ out.length ≤ 4030

/-- The outer loop's relation. -/
def RestRel (s : ByteArray) (w : World) (g : Nat) (ov : Value) (wr : World) : Prop :=
  ∃ (out : Bs) (st : St), ov = .string ⟨out.toArray⟩ ∧ KeptB w.heap.size w.heap.size w wr ∧ runTo start (L s ++ out) = some st ∧ Inv st ∧ μ st ≤ g ∧ out.length + μ st ≤ 4030

/-- The inner loop's relation: no mark yet, or the first that can stand. -/
def NextRel (w : World) (st : St) (g : Nat) (nv iv : Value) (wi : World) : Prop :=
  ∃ i : Nat, i ≤ 19 ∧ g = 20 - i ∧ iv = .int .i64 i ∧ KeptB w.heap.size w.heap.size w wi ∧ ((nv = .string ⟨#[]⟩ ∧ ∀ m ∈ marks.take i, (δ st m).isGo = false) ∨ ∃ m, nv = .string ⟨#[m]⟩ ∧ pick st = some m)

theorem mark_at (i : Nat) (h : i < 19) : ∃ m, marks[i]? = some m ∧ (⟨#[34, 93, 125, 58, 48, 44, 117, 108, 97, 115, 114, 101, 116, 100, 99, 92, 128, 144, 160]⟩ : ByteArray).extract i (i + 1) = ⟨#[m]⟩ := by
  obtain rfl | rfl | rfl | rfl | rfl | rfl | rfl | rfl | rfl | rfl | rfl | rfl | rfl | rfl | rfl | rfl | rfl | rfl | rfl : i = 0 ∨ i = 1 ∨ i = 2 ∨ i = 3 ∨ i = 4 ∨ i = 5 ∨ i = 6 ∨ i = 7 ∨ i = 8 ∨ i = 9 ∨ i = 10 ∨ i = 11 ∨ i = 12 ∨ i = 13 ∨ i = 14 ∨ i = 15 ∨ i = 16 ∨ i = 17 ∨ i = 18 := by omega
  all_goals exact ⟨_, rfl, by rfl⟩

theorem no_more {st : St} {i : Nat} {m : UInt8} (h : ∀ m ∈ marks.take i, (δ st m).isGo = false) (hm : marks[i]? = some m) (hd : (δ st m).isGo = false) : ∀ m ∈ marks.take (i + 1), (δ st m).isGo = false := by
  intro x hx
  rw [List.take_add_one, hm] at hx
  rcases List.mem_append.1 hx with hx | hx
  · exact h x hx
  · simp at hx; subst hx; exact hd

theorem pick_at {st : St} {i : Nat} {m : UInt8} (h : ∀ m ∈ marks.take i, (δ st m).isGo = false) (hm : marks[i]? = some m) (hd : (δ st m).isGo = true) : pick st = some m := by
  unfold pick
  rw [← List.take_append_drop i marks, List.find?_append]
  rw [List.find?_eq_none.2 (fun x hx => by rw [h x hx]; simp)]
  obtain ⟨hlt, hg⟩ := List.getElem?_eq_some_iff.1 hm
  rw [List.drop_eq_getElem_cons hlt, hg, List.find?_cons, hd]
  rfl

theorem pick_none {st : St} (h : ∀ m ∈ marks.take 19, (δ st m).isGo = false) : pick st = none := by
  unfold pick
  exact List.find?_eq_none.2 fun x hx => by rw [h x hx]; simp

theorem cat_is (s : ByteArray) (out : Bs) : L (s ++ ⟨out.toArray⟩) = L s ++ out := by simp [L]
theorem cat_bs (out : Bs) (m : UInt8) : (⟨out.toArray⟩ ++ ⟨#[m]⟩ : ByteArray) = ⟨(out ++ [m]).toArray⟩ := by
  have h := cat_is ⟨out.toArray⟩ [m]
  have h2 : ∀ a b : ByteArray, L a = L b → a = b := fun a b h => by
    cases a; cases b
    simp only [L] at h
    rw [Array.toList_inj.1 h]
  apply h2
  rw [show (⟨#[m]⟩ : ByteArray) = ⟨[m].toArray⟩ from rfl, h]
theorem cat_size (s : ByteArray) (out : Bs) : (s ++ ⟨out.toArray⟩ : ByteArray).size = s.size + out.length := by rw [← L_len, cat_is, List.length_append, L_len]

set_option maxRecDepth 100000 in
set_option maxHeartbeats 2000000 in
theorem r_rest (s : ByteArray) (hs : s.size ≤ 4000) (st0 : St) (h0 : runTo start (L s) = some st0) (w : World) : Calls Tryz.prog 6 #[.string s] w (RRest s w) := by
  have hi0 := inv_runTo inv_start h0
  have hb0 := bnd_runTo h0
  have hm0 := μ_le hi0
  have hmu : μ st0 ≤ 4030 := by
    have h1 : memAll start.stack = 0 := rfl
    have h2 : start.stack.length = 0 := rfl
    have h3 := hb0.2 (by omega)
    have h4 := L_len s
    omega
  have H0 := Lib.hid h0
  have HI0 := Lib.hid hi0
  clear h0 hi0 hb0 hm0
  go_enter Tryz.func6, Tryz.ntmps6
  go_wp2_with fail
  go_loopg [3] 4031 (fun g ov wr => RestRel s w g ov wr)
  case atStart => exact ⟨[], st0, rfl, KeptB.refl _ _ _, by rw [List.append_nil]; exact H0.out, HI0.out, by omega, by simpa using hmu⟩
  case round =>
    obtain ⟨out, st, rfl, hK, hrun, hinv, hg, hlen⟩ := hrel
    have HRUN := Lib.hid hrun
    have HINV := Lib.hid hinv
    clear hrun hinv H0 HI0
    have hsz := cat_size s out
    have HSZ := Lib.hid hsz
    have hrd := refRead_to HRUN.out
    clear hsz
    cases hf : fin st with
    | true =>
      have HRD := Lib.hid (show refRead (L (s ++ ⟨out.toArray⟩)) = (0, 0) by rw [cat_is, hrd, hf]; rfl)
      have HF := Lib.hid hf
      clear hrd hf
      go_wp2_with fail
      refine (r_read2 _ (by rw [HSZ.out]; unfold big; omega) 0 0 0 0 HRD.out rfl rfl _).mono ?_
      rintro e w1 ⟨k, n, t, an, ln, cn, ai, li, ci, rfl, K1⟩
      unfold str
      go_wp2_with fail
      go_ret
      exact ⟨out, st, rfl, (hK.trans (KeptB.le K1 hK.size)).alloc (Nat.le_trans hK.size K1.size) _, HRUN.out, HF.out, by omega⟩
    | false =>
      have HRD := Lib.hid (show refRead (L (s ++ ⟨out.toArray⟩)) = (40, s.size + out.length) by rw [cat_is, hrd, hf, List.length_append, L_len]; rfl)
      have HGO := Lib.hid (goes HINV.out hf)
      clear hrd hf
      go_wp2_with fail
      refine (r_read2 _ (by rw [HSZ.out]; unfold big; omega) 40 (s.size + out.length) 40 ((s.size : Int) + (out.length : Int)) HRD.out rfl (by omega) _).mono ?_
      rintro e w1 ⟨k, n, t, an, ln, cn, ai, li, ci, rfl, K1⟩
      have HK1 := Lib.hid ((hK.trans (KeptB.le K1 hK.size)).alloc (Nat.le_trans hK.size K1.size) (.cells #[.int .i64 k, .int .i64 n, .string ⟨t.toArray⟩, .slice an ln cn, .slice ai li ci] 26 (0, 0)))
      clear K1
      unfold str
      go_wp2_with fail
      obtain ⟨w2, hw2⟩ : ∃ w2, w2 = w1.alloc (.cells #[.int .i64 k, .int .i64 n, .string ⟨t.toArray⟩, .slice an ln cn, .slice ai li ci] 26 (0, 0)) := ⟨_, rfl⟩
      rw [← hw2] at HK1 ⊢
      clear hw2
      go_loopg [7, 8] 20 (fun g nv iv wi => NextRel w st g nv iv wi)
      case atStart => exact ⟨0, by omega, rfl, rfl, HK1.out, .inl ⟨rfl, by simp⟩⟩
      case round =>
        obtain ⟨i, hi, hgi, rfl, hK2, ⟨rfl, hno⟩ | ⟨m, rfl, hpick⟩⟩ := hrel
        · have HNO := Lib.hid hno
          have HGI := Lib.hid hgi
          clear hno hgi
          by_cases hlt : i < 19
          · obtain ⟨m, hm, hext⟩ := mark_at i hlt
            have HM := Lib.hid hm
            have HEXT := Lib.hid hext
            have HTL := Lib.hid (show L (s ++ ⟨out.toArray⟩ ++ ⟨#[m]⟩) = L s ++ out ++ [m] by rw [show (⟨#[m]⟩ : ByteArray) = ⟨[m].toArray⟩ from rfl, cat_is, cat_is])
            have HTS := Lib.hid (show (s ++ ⟨out.toArray⟩ ++ ⟨#[m]⟩ : ByteArray).size = s.size + out.length + 1 by rw [show (⟨#[m]⟩ : ByteArray) = ⟨[m].toArray⟩ from rfl, cat_size, cat_size]; rfl)
            clear hm hext
            cases hd : δ st m with
            | go st' =>
              have HD := Lib.hid hd
              have hrt := refRead_to (runTo_snoc HRUN.out hd)
              clear hd
              cases hf : fin st' with
              | true =>
                have HRT := Lib.hid (show refRead (L (s ++ ⟨out.toArray⟩ ++ ⟨#[m]⟩)) = (0, 0) by rw [HTL.out, hrt, hf]; rfl)
                clear hrt hf
                go_wp2_with fail
                rw [HEXT.out]
                refine (r_read2 _ (by rw [HTS.out]; unfold big; omega) 0 0 0 0 HRT.out rfl rfl _).mono ?_
                rintro e w3 ⟨k3, n3, t3, an3, ln3, cn3, ai3, li3, ci3, rfl, K3⟩
                unfold str
                go_wp2_with fail
                go_roundg (20 - (i + 1))
                case measure => rw [HGI.out]; omega
                case rel => exact ⟨i + 1, by omega, rfl, by go_num, (hK2.trans (KeptB.le K3 hK2.size)).alloc (Nat.le_trans hK2.size K3.size) _, .inr ⟨m, by rw [HEXT.out], pick_at HNO.out HM.out (by rw [HD.out]; rfl)⟩⟩
              | false =>
                have HRT := Lib.hid (show refRead (L (s ++ ⟨out.toArray⟩ ++ ⟨#[m]⟩)) = (40, s.size + out.length + 1) by rw [HTL.out, hrt, hf, List.length_append, List.length_append, L_len]; rfl)
                clear hrt hf
                go_wp2_with fail
                rw [HEXT.out]
                refine (r_read2 _ (by rw [HTS.out]; unfold big; omega) 40 (s.size + out.length + 1) 40 ((s.size : Int) + (out.length : Int) + 1) HRT.out rfl (by omega) _).mono ?_
                rintro e w3 ⟨k3, n3, t3, an3, ln3, cn3, ai3, li3, ci3, rfl, K3⟩
                unfold str
                go_wp2_with fail
                go_roundg (20 - (i + 1))
                case measure => rw [HGI.out]; omega
                case rel => exact ⟨i + 1, by omega, rfl, by go_num, (hK2.trans (KeptB.le K3 hK2.size)).alloc (Nat.le_trans hK2.size K3.size) _, .inr ⟨m, by rw [HEXT.out], pick_at HNO.out HM.out (by rw [HD.out]; rfl)⟩⟩
            | bad er =>
              have hne := bad_ne hd
              have HD := Lib.hid hd
              have HRT := Lib.hid (show refRead (L (s ++ ⟨out.toArray⟩ ++ ⟨#[m]⟩)) = (er, s.size + out.length) by rw [HTL.out, refRead_bad HRUN.out hd, List.length_append, L_len])
              have g0 : ((er : Int) == 0) = false := beq_eq_false_iff_ne.2 (fun e => hne (Int.ofNat.inj e))
              clear hd
              by_cases h40 : er = 40
              · have g1 : ((er : Int) == 40) = true := by simp [h40]
                have g2 : ((s.size : Int) + (out.length : Int) == (s.size : Int) + (out.length : Int) + 1) = false := beq_eq_false_iff_ne.2 (by omega)
                clear h40 hne
                go_wp2_with fail
                rw [HEXT.out]
                refine (r_read2 _ (by rw [HTS.out]; unfold big; omega) er (s.size + out.length) (er : Int) ((s.size : Int) + (out.length : Int)) HRT.out rfl (by omega) _).mono ?_
                rintro e w3 ⟨k3, n3, t3, an3, ln3, cn3, ai3, li3, ci3, rfl, K3⟩
                unfold str
                go_wp2_with fail
                go_roundg (20 - (i + 1))
                case measure => rw [HGI.out]; omega
                case rel => exact ⟨i + 1, by omega, rfl, by go_num, (hK2.trans (KeptB.le K3 hK2.size)).alloc (Nat.le_trans hK2.size K3.size) _, .inl ⟨rfl, no_more HNO.out HM.out (by rw [HD.out]; rfl)⟩⟩
              · have g1 : ((er : Int) == 40) = false := beq_eq_false_iff_ne.2 (fun e => h40 (Int.ofNat.inj e))
                clear h40 hne
                go_wp2_with fail
                rw [HEXT.out]
                refine (r_read2 _ (by rw [HTS.out]; unfold big; omega) er (s.size + out.length) (er : Int) ((s.size : Int) + (out.length : Int)) HRT.out rfl (by omega) _).mono ?_
                rintro e w3 ⟨k3, n3, t3, an3, ln3, cn3, ai3, li3, ci3, rfl, K3⟩
                unfold str
                go_wp2_with fail
                go_roundg (20 - (i + 1))
                case measure => rw [HGI.out]; omega
                case rel => exact ⟨i + 1, by omega, rfl, by go_num, (hK2.trans (KeptB.le K3 hK2.size)).alloc (Nat.le_trans hK2.size K3.size) _, .inl ⟨rfl, no_more HNO.out HM.out (by rw [HD.out]; rfl)⟩⟩
          · obtain rfl : i = 19 := by omega
            obtain ⟨m, s', hp, _⟩ := HGO.out
            rw [pick_none HNO.out] at hp
            cases hp
        · have HP := Lib.hid hpick
          clear hpick
          obtain ⟨m', s', hp', hd', hi', hμ'⟩ := HGO.out
          obtain rfl : m' = m := by have := HP.out; rw [this] at hp'; cases hp'; rfl
          have HD := Lib.hid hd'
          have HI' := Lib.hid hi'
          clear hp' hd' hi' HP hgi
          by_cases hlt : i < 19
          · have hlt' : (i : Int) < 19 := by omega
            go_wp2_with fail
            go_roundg (μ s')
            case measure => omega
            case rel => exact ⟨out ++ [m'], s', congrArg Value.string (cat_bs out m'), hK2, by rw [← List.append_assoc]; exact runTo_snoc HRUN.out HD.out, HI'.out, Nat.le_refl _, by rw [List.length_append]; simp; omega⟩
          · obtain rfl : i = 19 := by omega
            go_wp2_with fail
            go_roundg (μ s')
            case measure => omega
            case rel => exact ⟨out ++ [m'], s', congrArg Value.string (cat_bs out m'), hK2, by rw [← List.append_assoc]; exact runTo_snoc HRUN.out HD.out, HI'.out, Nat.le_refl _, by rw [List.length_append]; simp; omega⟩

#print axioms r_rest

end Jot
end Go.Proofs.YthgcnmdnjfajbaaGreatDoor
