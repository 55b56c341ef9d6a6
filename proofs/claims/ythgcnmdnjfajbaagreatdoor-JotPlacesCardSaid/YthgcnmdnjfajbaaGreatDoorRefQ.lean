/- Walk over the reference's reader: value, at every depth (printed by gen_rval.py). Conditions: a reader that stands in its text. -/
import Derived.Test.YthgcnmdnjfajbaaGreatDoorRefP
namespace Go.Proofs.YthgcnmdnjfajbaaGreatDoor
open Go.RowKit
namespace Jot

/-- The result's block. -/
structure VB (w : World) (bp : Nat) (wr : World) : Prop where
  kept : Kept bp w wr
  b0 : wr.heap[w.heap.size]? = some (.cells #[.int .i64 0, .int .i64 0, .string ⟨#[]⟩, .slice none 0 0, .slice none 0 0] 26 (0, 0))

theorem VB.start (w : World) (bp : Nat) : VB w bp (w.alloc (.cells #[.int .i64 0, .int .i64 0, .string ⟨#[]⟩, .slice none 0 0, .slice none 0 0] 26 (0, 0))) := ⟨(Kept.refl bp w).alloc _, heap_alloc_new _ _⟩

theorem VB.keptK {w wr w' : World} {bp : Nat} (h : VB w bp wr) (hbp : bp < w.heap.size) (K : Kept bp wr w') : VB w bp w' :=
  ⟨h.kept.trans K, (K.block _ (Array.getElem?_eq_some_iff.1 h.b0).1 (by omega)).trans h.b0⟩

theorem VB.facts {w wr : World} {bp : Nat} (h : VB w bp wr) :
    (wr.cell? ⟨w.heap.size, 0, none⟩ = some (.int .i64 0) ∧ wr.cell? ⟨w.heap.size, 1, none⟩ = some (.int .i64 0) ∧ wr.cell? ⟨w.heap.size, 2, none⟩ = some (.string ⟨#[]⟩) ∧ wr.cell? ⟨w.heap.size, 3, none⟩ = some (.slice none 0 0) ∧ wr.cell? ⟨w.heap.size, 4, none⟩ = some (.slice none 0 0)) ∧
    (wr.frozen? ⟨w.heap.size, 0, none⟩ = false ∧ wr.frozen? ⟨w.heap.size, 1, none⟩ = false ∧ wr.frozen? ⟨w.heap.size, 2, none⟩ = false ∧ wr.frozen? ⟨w.heap.size, 3, none⟩ = false ∧ wr.frozen? ⟨w.heap.size, 4, none⟩ = false) := by
  have hb0 := h.b0
  refine ⟨⟨?_, ?_, ?_, ?_, ?_⟩, ⟨?_, ?_, ?_, ?_, ?_⟩⟩
  all_goals first
    | (simp [World.cell?, hb0]; done)
    | (simp [World.frozen?, hb0]; done)

theorem VB.five {w wr : World} {bp : Nat} (h : VB w bp wr) (hbp : bp < w.heap.size) {s : ByteArray} {i e d : Nat} (A : RAt wr bp s i e d) (u0 u1 u2 u3 u4 : Value) :
    Kept bp w (setFive wr w.heap.size u0 u1 u2 u3 u4) ∧ RAt (setFive wr w.heap.size u0 u1 u2 u3 u4) bp s i e d := by
  refine ⟨((((h.kept.setNew (Nat.le_refl _) _).setNew (Nat.le_refl _) _).setNew (Nat.le_refl _) _).setNew (Nat.le_refl _) _).setNew (Nat.le_refl _) _, ?_⟩
  unfold RAt at A ⊢
  rw [setFive_far _ _ _ _ _ _ trivial (by omega)]; exact A

theorem val_none {l : Bs} {i : Nat} (h : ∀ c, l[i]? = some c → NumStart c ∧ c ≠ 45 ∧ isDigit c = false) (k : List Fr) : R l i ⟨.val, k⟩ = .bad eForm i := by
  cases hc : l[i]? with
  | none => exact val_end (List.getElem?_eq_none_iff.1 hc) k
  | some c =>
    obtain ⟨⟨h0, h1, h2, h3, h4, h5, h6⟩, h7, h8⟩ := h c hc
    have h48 : c ≠ 48 := by rintro rfl; cases h8
    rw [R_bad hc (e := eForm)]; simp [δ, dVal, h0, h1, h2, h3, h4, h5, h6, h7, h8, h48]

set_option maxRecDepth 100000 in
set_option maxHeartbeats 1000000 in
theorem r_val_null (bp : Nat) (s : ByteArray) (i d : Nat) (w : World) (h : RAt w bp s i 0 d) (hs : s.size ≤ big) (hi : i < s.size) (hc : s[i].toNat = 110) :
    Calls Tryz.prog 29 #[.pointer (some ⟨bp, 0, none⟩)] w (RVal bp s w i d) := by
  have HS := Lib.hid hs
  unfold big at hs
  have hbp := h.lt
  have HVB := Lib.hid (VB.start w bp)
  have HA := Lib.hid (h.alloc (.cells #[.int .i64 0, .int .i64 0, .string ⟨#[]⟩, .slice none 0 0, .slice none 0 0] 26 (0, 0)))
  have hi' : (i : Int) < s.size := by omega
  have t110 : ((s[i].toNat : Int) == 110) = true := by simp [hc]
  have HC := Lib.hid (show (L s)[i]? = some 110 by rw [L_get hi]; exact congrArg some (UInt8.toNat_inj.1 hc))
  clear h hc
  go_enter Tryz.func29, Tryz.ntmps29
  go_wp2_with fail
  generalize w.alloc (.cells #[.int .i64 0, .int .i64 0, .string ⟨#[]⟩, .slice none 0 0, .slice none 0 0] 26 (0, 0)) = wa at *
  have c0 := HA.out.c0
  have c1 := HA.out.c1
  go_quiet (fail)
  go_wp2_with fail
  go_quiet (fail)
  go_wp2_with fail
  refine (r_word bp s ⟨#[110, 117, 108, 108]⟩ i d _ (by exact HA.out) (by omega) HS.out (by decide)).mono ?_
  rintro e w3 (⟨hm, rfl, A3, K3⟩ | ⟨k, hk, hmk, hnk, rfl, ⟨d3, A3⟩, K3⟩)
  · have HM := Lib.hid hm
    clear hm
    have HA3 := Lib.hid A3
    have HV3 := Lib.hid (HVB.out.keptK hbp (Kept.trans (by with_reducible repeat (first | assumption | apply Kept.drewN | apply Kept.set | exact Kept.refl _ _)) K3))
    obtain ⟨⟨e0, e1, e2, e3, e4⟩, ⟨f0, f1, f2, f3, f4⟩⟩ := HV3.out.facts
    clear A3 K3
    go_wp2_with fail
    refine bodyPost_ret (by simp [results, Tryz.results29, go_sem, e0, e1, e2, e3, e4]; try rfl) rfl ?_
    obtain ⟨q1, q2⟩ := HV3.out.five hbp HA3.out (.int .i64 0) (.int .i64 0) (.string ⟨#[]⟩) (.slice none 0 0) (.slice none 0 0)
    have hR := fun K => word_R (l := L s) (j := i) (c := 110) (r := [117, 108, 108]) (v := .null) (by simp) (fun K => by simp [dVal, isBlank]) (fun k hk => HM.out k hk) K
    have hle : i + 4 ≤ s.size := by
      have := HM.out 3 (by decide)
      have h2 : (L s)[i + 3]? = some 108 := this
      have := (List.getElem?_eq_some_iff.1 h2).1; rw [L_len] at this; omega
    exact .inl ⟨0, 0, [], none, 0, 0, none, 0, 0, .null, i + 4, by omega, hle, ⟨rfl, q2, q1⟩, fun K hK => hR K⟩
  · have HMK := Lib.hid hmk
    have HNK := Lib.hid hnk
    have hk' : k < 4 := hk
    clear hmk hnk hk
    have HA3 := Lib.hid A3
    have HV3 := Lib.hid (HVB.out.keptK hbp (Kept.trans (by with_reducible repeat (first | assumption | apply Kept.drewN | apply Kept.set | exact Kept.refl _ _)) K3))
    obtain ⟨⟨e0, e1, e2, e3, e4⟩, ⟨f0, f1, f2, f3, f4⟩⟩ := HV3.out.facts
    clear A3 K3
    go_wp2_with fail
    refine bodyPost_ret (by simp [results, Tryz.results29, go_sem, e0, e1, e2, e3, e4]; try rfl) rfl ?_
    obtain ⟨q1, q2⟩ := HV3.out.five hbp HA3.out (.int .i64 0) (.int .i64 0) (.string ⟨#[]⟩) (.slice none 0 0) (.slice none 0 0)
    have hle : i + k ≤ (L s).length := word_le (ws := [110, 117, 108, 108]) (by rw [L_len]; omega) hk' HMK.out
    exact .inr ⟨0, 0, [], none, 0, 0, none, 0, 0, 40, i + k, by rw [← L_len]; exact hle, ⟨rfl, ⟨_, q2⟩, q1⟩, fun K hK => word_R_bad (c := 110) (r := [117, 108, 108]) (v := .null) (fun K => by simp [dVal, isBlank]) HC.out hk' HMK.out HNK.out hle K⟩

set_option maxRecDepth 100000 in
set_option maxHeartbeats 1000000 in
theorem r_val_false (bp : Nat) (s : ByteArray) (i d : Nat) (w : World) (h : RAt w bp s i 0 d) (hs : s.size ≤ big) (hi : i < s.size) (hc : s[i].toNat = 102) :
    Calls Tryz.prog 29 #[.pointer (some ⟨bp, 0, none⟩)] w (RVal bp s w i d) := by
  have HS := Lib.hid hs
  unfold big at hs
  have hbp := h.lt
  have HVB := Lib.hid (VB.start w bp)
  have HA := Lib.hid (h.alloc (.cells #[.int .i64 0, .int .i64 0, .string ⟨#[]⟩, .slice none 0 0, .slice none 0 0] 26 (0, 0)))
  have hi' : (i : Int) < s.size := by omega
  have t110 : ((s[i].toNat : Int) == 110) = false := by simp; omega
  have t102 : ((s[i].toNat : Int) == 102) = true := by simp [hc]
  have HC := Lib.hid (show (L s)[i]? = some 102 by rw [L_get hi]; exact congrArg some (UInt8.toNat_inj.1 hc))
  clear h hc
  go_enter Tryz.func29, Tryz.ntmps29
  go_wp2_with fail
  generalize w.alloc (.cells #[.int .i64 0, .int .i64 0, .string ⟨#[]⟩, .slice none 0 0, .slice none 0 0] 26 (0, 0)) = wa at *
  have c0 := HA.out.c0
  have c1 := HA.out.c1
  go_quiet (fail)
  go_wp2_with fail
  go_quiet (fail)
  go_wp2_with fail
  refine (r_word bp s ⟨#[102, 97, 108, 115, 101]⟩ i d _ (by exact HA.out) (by omega) HS.out (by decide)).mono ?_
  rintro e w3 (⟨hm, rfl, A3, K3⟩ | ⟨k, hk, hmk, hnk, rfl, ⟨d3, A3⟩, K3⟩)
  · have HM := Lib.hid hm
    clear hm
    have HA3 := Lib.hid A3
    have HV3 := Lib.hid (HVB.out.keptK hbp (Kept.trans (by with_reducible repeat (first | assumption | apply Kept.drewN | apply Kept.set | exact Kept.refl _ _)) K3))
    obtain ⟨⟨e0, e1, e2, e3, e4⟩, ⟨f0, f1, f2, f3, f4⟩⟩ := HV3.out.facts
    clear A3 K3
    go_wp2_with fail
    refine bodyPost_ret (by simp [results, Tryz.results29, go_sem, e0, e1, e2, e3, e4]; try rfl) rfl ?_
    obtain ⟨q1, q2⟩ := HV3.out.five hbp HA3.out (.int .i64 1) (.int .i64 0) (.string ⟨#[]⟩) (.slice none 0 0) (.slice none 0 0)
    have hR := fun K => word_R (l := L s) (j := i) (c := 102) (r := [97, 108, 115, 101]) (v := (.truth false)) (by simp) (fun K => by simp [dVal, isBlank]) (fun k hk => HM.out k hk) K
    have hle : i + 5 ≤ s.size := by
      have := HM.out 4 (by decide)
      have h2 : (L s)[i + 4]? = some 101 := this
      have := (List.getElem?_eq_some_iff.1 h2).1; rw [L_len] at this; omega
    exact .inl ⟨1, 0, [], none, 0, 0, none, 0, 0, (.truth false), i + 5, by omega, hle, ⟨rfl, q2, q1⟩, fun K hK => hR K⟩
  · have HMK := Lib.hid hmk
    have HNK := Lib.hid hnk
    have hk' : k < 5 := hk
    clear hmk hnk hk
    have HA3 := Lib.hid A3
    have HV3 := Lib.hid (HVB.out.keptK hbp (Kept.trans (by with_reducible repeat (first | assumption | apply Kept.drewN | apply Kept.set | exact Kept.refl _ _)) K3))
    obtain ⟨⟨e0, e1, e2, e3, e4⟩, ⟨f0, f1, f2, f3, f4⟩⟩ := HV3.out.facts
    clear A3 K3
    go_wp2_with fail
    refine bodyPost_ret (by simp [results, Tryz.results29, go_sem, e0, e1, e2, e3, e4]; try rfl) rfl ?_
    obtain ⟨q1, q2⟩ := HV3.out.five hbp HA3.out (.int .i64 1) (.int .i64 0) (.string ⟨#[]⟩) (.slice none 0 0) (.slice none 0 0)
    have hle : i + k ≤ (L s).length := word_le (ws := [102, 97, 108, 115, 101]) (by rw [L_len]; omega) hk' HMK.out
    exact .inr ⟨1, 0, [], none, 0, 0, none, 0, 0, 40, i + k, by rw [← L_len]; exact hle, ⟨rfl, ⟨_, q2⟩, q1⟩, fun K hK => word_R_bad (c := 102) (r := [97, 108, 115, 101]) (v := (.truth false)) (fun K => by simp [dVal, isBlank]) HC.out hk' HMK.out HNK.out hle K⟩

set_option maxRecDepth 100000 in
set_option maxHeartbeats 1000000 in
theorem r_val_true (bp : Nat) (s : ByteArray) (i d : Nat) (w : World) (h : RAt w bp s i 0 d) (hs : s.size ≤ big) (hi : i < s.size) (hc : s[i].toNat = 116) :
    Calls Tryz.prog 29 #[.pointer (some ⟨bp, 0, none⟩)] w (RVal bp s w i d) := by
  have HS := Lib.hid hs
  unfold big at hs
  have hbp := h.lt
  have HVB := Lib.hid (VB.start w bp)
  have HA := Lib.hid (h.alloc (.cells #[.int .i64 0, .int .i64 0, .string ⟨#[]⟩, .slice none 0 0, .slice none 0 0] 26 (0, 0)))
  have hi' : (i : Int) < s.size := by omega
  have t110 : ((s[i].toNat : Int) == 110) = false := by simp; omega
  have t102 : ((s[i].toNat : Int) == 102) = false := by simp; omega
  have t116 : ((s[i].toNat : Int) == 116) = true := by simp [hc]
  have HC := Lib.hid (show (L s)[i]? = some 116 by rw [L_get hi]; exact congrArg some (UInt8.toNat_inj.1 hc))
  clear h hc
  go_enter Tryz.func29, Tryz.ntmps29
  go_wp2_with fail
  generalize w.alloc (.cells #[.int .i64 0, .int .i64 0, .string ⟨#[]⟩, .slice none 0 0, .slice none 0 0] 26 (0, 0)) = wa at *
  have c0 := HA.out.c0
  have c1 := HA.out.c1
  go_quiet (fail)
  go_wp2_with fail
  go_quiet (fail)
  go_wp2_with fail
  refine (r_word bp s ⟨#[116, 114, 117, 101]⟩ i d _ (by exact HA.out) (by omega) HS.out (by decide)).mono ?_
  rintro e w3 (⟨hm, rfl, A3, K3⟩ | ⟨k, hk, hmk, hnk, rfl, ⟨d3, A3⟩, K3⟩)
  · have HM := Lib.hid hm
    clear hm
    have HA3 := Lib.hid A3
    have HV3 := Lib.hid (HVB.out.keptK hbp (Kept.trans (by with_reducible repeat (first | assumption | apply Kept.drewN | apply Kept.set | exact Kept.refl _ _)) K3))
    obtain ⟨⟨e0, e1, e2, e3, e4⟩, ⟨f0, f1, f2, f3, f4⟩⟩ := HV3.out.facts
    clear A3 K3
    go_wp2_with fail
    refine bodyPost_ret (by simp [results, Tryz.results29, go_sem, e0, e1, e2, e3, e4]; try rfl) rfl ?_
    obtain ⟨q1, q2⟩ := HV3.out.five hbp HA3.out (.int .i64 2) (.int .i64 0) (.string ⟨#[]⟩) (.slice none 0 0) (.slice none 0 0)
    have hR := fun K => word_R (l := L s) (j := i) (c := 116) (r := [114, 117, 101]) (v := (.truth true)) (by simp) (fun K => by simp [dVal, isBlank]) (fun k hk => HM.out k hk) K
    have hle : i + 4 ≤ s.size := by
      have := HM.out 3 (by decide)
      have h2 : (L s)[i + 3]? = some 101 := this
      have := (List.getElem?_eq_some_iff.1 h2).1; rw [L_len] at this; omega
    exact .inl ⟨2, 0, [], none, 0, 0, none, 0, 0, (.truth true), i + 4, by omega, hle, ⟨rfl, q2, q1⟩, fun K hK => hR K⟩
  · have HMK := Lib.hid hmk
    have HNK := Lib.hid hnk
    have hk' : k < 4 := hk
    clear hmk hnk hk
    have HA3 := Lib.hid A3
    have HV3 := Lib.hid (HVB.out.keptK hbp (Kept.trans (by with_reducible repeat (first | assumption | apply Kept.drewN | apply Kept.set | exact Kept.refl _ _)) K3))
    obtain ⟨⟨e0, e1, e2, e3, e4⟩, ⟨f0, f1, f2, f3, f4⟩⟩ := HV3.out.facts
    clear A3 K3
    go_wp2_with fail
    refine bodyPost_ret (by simp [results, Tryz.results29, go_sem, e0, e1, e2, e3, e4]; try rfl) rfl ?_
    obtain ⟨q1, q2⟩ := HV3.out.five hbp HA3.out (.int .i64 2) (.int .i64 0) (.string ⟨#[]⟩) (.slice none 0 0) (.slice none 0 0)
    have hle : i + k ≤ (L s).length := word_le (ws := [116, 114, 117, 101]) (by rw [L_len]; omega) hk' HMK.out
    exact .inr ⟨2, 0, [], none, 0, 0, none, 0, 0, 40, i + k, by rw [← L_len]; exact hle, ⟨rfl, ⟨_, q2⟩, q1⟩, fun K hK => word_R_bad (c := 116) (r := [114, 117, 101]) (v := (.truth true)) (fun K => by simp [dVal, isBlank]) HC.out hk' HMK.out HNK.out hle K⟩

set_option maxRecDepth 100000 in
set_option maxHeartbeats 1000000 in
theorem r_val_text (bp : Nat) (s : ByteArray) (i d : Nat) (w : World) (h : RAt w bp s i 0 d) (hs : s.size ≤ big) (hi : i < s.size) (hc : s[i].toNat = 34) :
    Calls Tryz.prog 29 #[.pointer (some ⟨bp, 0, none⟩)] w (RVal bp s w i d) := by
  have HS := Lib.hid hs
  unfold big at hs
  have hbp := h.lt
  have HVB := Lib.hid (VB.start w bp)
  have HA := Lib.hid (h.alloc (.cells #[.int .i64 0, .int .i64 0, .string ⟨#[]⟩, .slice none 0 0, .slice none 0 0] 26 (0, 0)))
  have hi' : (i : Int) < s.size := by omega
  have t110 : ((s[i].toNat : Int) == 110) = false := by simp; omega
  have t102 : ((s[i].toNat : Int) == 102) = false := by simp; omega
  have t116 : ((s[i].toNat : Int) == 116) = false := by simp; omega
  have t34 : ((s[i].toNat : Int) == 34) = true := by simp [hc]
  have HC := Lib.hid (show (L s)[i]? = some 34 by rw [L_get hi]; exact congrArg some (UInt8.toNat_inj.1 hc))
  clear h hc
  go_enter Tryz.func29, Tryz.ntmps29
  go_wp2_with fail
  generalize w.alloc (.cells #[.int .i64 0, .int .i64 0, .string ⟨#[]⟩, .slice none 0 0, .slice none 0 0] 26 (0, 0)) = wa at *
  have c0 := HA.out.c0
  have c1 := HA.out.c1
  go_quiet (fail)
  go_wp2_with fail
  go_quiet (fail)
  go_wp2_with fail
  refine (r_text bp s i d _ (by exact HA.out) HS.out).mono ?_
  rintro e w3 (⟨acc, j, hij, hq, hqj, ⟨rfl, A3, K3⟩, hnl, hR⟩ | ⟨hq, rfl, ⟨d3, A3⟩, K3⟩ | ⟨p, hp, hq, ⟨rfl, ⟨d3, A3⟩, K3⟩, hR⟩)
  · have HR := Lib.hid hR
    have HQJ := Lib.hid hqj
    have hjlt : j < s.size := by have := (List.getElem?_eq_some_iff.1 hqj).1; rwa [L_len] at this
    clear hR hq hqj
    unfold str
    have HA3 := Lib.hid A3
    have HV3 := Lib.hid (HVB.out.keptK hbp (Kept.trans (by with_reducible repeat (first | assumption | apply Kept.drewN | apply Kept.set | exact Kept.refl _ _)) K3))
    obtain ⟨⟨e0, e1, e2, e3, e4⟩, ⟨f0, f1, f2, f3, f4⟩⟩ := HV3.out.facts
    clear A3 K3
    go_wp2_with fail
    refine bodyPost_ret (by simp [results, Tryz.results29, go_sem, e0, e1, e2, e3, e4]; try rfl) rfl ?_
    obtain ⟨q1, q2⟩ := HV3.out.five hbp HA3.out (.int .i64 4) (.int .i64 0) (.string ⟨acc.toArray⟩) (.slice none 0 0) (.slice none 0 0)
    refine .inl ⟨4, 0, acc, none, 0, 0, none, 0, 0, .text acc, j + 1, by omega, hjlt, ⟨rfl, q2, q1⟩, fun K hK => ?_⟩
    rw [val_quote HC.out, HR.out false K, text_close HQJ.out]
  · exact absurd HC.out hq
  · have HR := Lib.hid hR
    clear hR hq
    have HA3 := Lib.hid A3
    have HV3 := Lib.hid (HVB.out.keptK hbp (Kept.trans (by with_reducible repeat (first | assumption | apply Kept.drewN | apply Kept.set | exact Kept.refl _ _)) K3))
    obtain ⟨⟨e0, e1, e2, e3, e4⟩, ⟨f0, f1, f2, f3, f4⟩⟩ := HV3.out.facts
    clear A3 K3
    go_wp2_with fail
    refine bodyPost_ret (by simp [results, Tryz.results29, go_sem, e0, e1, e2, e3, e4]; try rfl) rfl ?_
    obtain ⟨q1, q2⟩ := HV3.out.five hbp HA3.out (.int .i64 4) (.int .i64 0) (.string ⟨#[]⟩) (.slice none 0 0) (.slice none 0 0)
    refine .inr ⟨4, 0, [], none, 0, 0, none, 0, 0, 40, p, hp, ⟨rfl, ⟨_, q2⟩, q1⟩, fun K hK => ?_⟩
    rw [val_quote HC.out, HR.out false K]
    rfl

set_option maxRecDepth 100000 in
set_option maxHeartbeats 1000000 in
theorem r_val_list (bp : Nat) (s : ByteArray) (i d : Nat) (w : World) (h : RAt w bp s i 0 d) (hs : s.size ≤ big) (hi : i < s.size) (hc : s[i].toNat = 91) (hcall : ∀ w', RAt w' bp s i 0 d → Calls Tryz.prog 52 #[.pointer (some ⟨bp, 0, none⟩)] w' (RVal bp s w' i d)) :
    Calls Tryz.prog 29 #[.pointer (some ⟨bp, 0, none⟩)] w (RVal bp s w i d) := by
  have HS := Lib.hid hs
  unfold big at hs
  have hbp := h.lt
  have HVB := Lib.hid (VB.start w bp)
  have HA := Lib.hid (h.alloc (.cells #[.int .i64 0, .int .i64 0, .string ⟨#[]⟩, .slice none 0 0, .slice none 0 0] 26 (0, 0)))
  have hi' : (i : Int) < s.size := by omega
  have t110 : ((s[i].toNat : Int) == 110) = false := by simp; omega
  have t102 : ((s[i].toNat : Int) == 102) = false := by simp; omega
  have t116 : ((s[i].toNat : Int) == 116) = false := by simp; omega
  have t34 : ((s[i].toNat : Int) == 34) = false := by simp; omega
  have t91 : ((s[i].toNat : Int) == 91) = true := by simp [hc]
  have HC := Lib.hid (show ∀ w', RAt w' bp s i 0 d → Calls Tryz.prog 52 #[.pointer (some ⟨bp, 0, none⟩)] w' (RVal bp s w' i d) from hcall)
  clear h hc hcall
  go_enter Tryz.func29, Tryz.ntmps29
  go_wp2_with fail
  generalize w.alloc (.cells #[.int .i64 0, .int .i64 0, .string ⟨#[]⟩, .slice none 0 0, .slice none 0 0] 26 (0, 0)) = wa at *
  have c0 := HA.out.c0
  have c1 := HA.out.c1
  go_quiet (fail)
  go_wp2_with fail
  go_quiet (fail)
  go_wp2_with fail
  refine (HC.out _ (by exact HA.out)).mono ?_
  rintro e w3 (⟨k, n, t, an, ln, cn, ai, li, ci, jv, j, hjj, hj, ⟨rfl, A3, K3⟩, hR⟩ | ⟨k, n, t, an, ln, cn, ai, li, ci, q, p, hp, ⟨rfl, ⟨d3, A3⟩, K3⟩, hR⟩)
  · have HR := Lib.hid hR
    clear hR
    unfold str
    have HA3 := Lib.hid A3
    have HV3 := Lib.hid (HVB.out.keptK hbp (Kept.trans (by with_reducible repeat (first | assumption | apply Kept.drewN | apply Kept.set | exact Kept.refl _ _)) K3))
    obtain ⟨⟨e0, e1, e2, e3, e4⟩, ⟨f0, f1, f2, f3, f4⟩⟩ := HV3.out.facts
    clear A3 K3
    go_wp2_with fail
    refine bodyPost_ret (by simp [results, Tryz.results29, go_sem, e0, e1, e2, e3, e4]; try rfl) rfl ?_
    obtain ⟨q1, q2⟩ := HV3.out.five hbp HA3.out (.int .i64 k) (.int .i64 n) (.string ⟨t.toArray⟩) (.slice an ln cn) (.slice ai li ci)
    exact .inl ⟨k, n, t, an, ln, cn, ai, li, ci, jv, j, hjj, hj, ⟨rfl, q2, q1⟩, HR.out⟩
  · have HR := Lib.hid hR
    clear hR
    unfold str
    have HA3 := Lib.hid A3
    have HV3 := Lib.hid (HVB.out.keptK hbp (Kept.trans (by with_reducible repeat (first | assumption | apply Kept.drewN | apply Kept.set | exact Kept.refl _ _)) K3))
    obtain ⟨⟨e0, e1, e2, e3, e4⟩, ⟨f0, f1, f2, f3, f4⟩⟩ := HV3.out.facts
    clear A3 K3
    go_wp2_with fail
    refine bodyPost_ret (by simp [results, Tryz.results29, go_sem, e0, e1, e2, e3, e4]; try rfl) rfl ?_
    obtain ⟨q1, q2⟩ := HV3.out.five hbp HA3.out (.int .i64 k) (.int .i64 n) (.string ⟨t.toArray⟩) (.slice an ln cn) (.slice ai li ci)
    exact .inr ⟨k, n, t, an, ln, cn, ai, li, ci, q, p, hp, ⟨rfl, ⟨_, q2⟩, q1⟩, HR.out⟩

set_option maxRecDepth 100000 in
set_option maxHeartbeats 1000000 in
theorem r_val_object (bp : Nat) (s : ByteArray) (i d : Nat) (w : World) (h : RAt w bp s i 0 d) (hs : s.size ≤ big) (hi : i < s.size) (hc : s[i].toNat = 123) (hcall : ∀ w', RAt w' bp s i 0 d → Calls Tryz.prog 53 #[.pointer (some ⟨bp, 0, none⟩)] w' (RVal bp s w' i d)) :
    Calls Tryz.prog 29 #[.pointer (some ⟨bp, 0, none⟩)] w (RVal bp s w i d) := by
  have HS := Lib.hid hs
  unfold big at hs
  have hbp := h.lt
  have HVB := Lib.hid (VB.start w bp)
  have HA := Lib.hid (h.alloc (.cells #[.int .i64 0, .int .i64 0, .string ⟨#[]⟩, .slice none 0 0, .slice none 0 0] 26 (0, 0)))
  have hi' : (i : Int) < s.size := by omega
  have t110 : ((s[i].toNat : Int) == 110) = false := by simp; omega
  have t102 : ((s[i].toNat : Int) == 102) = false := by simp; omega
  have t116 : ((s[i].toNat : Int) == 116) = false := by simp; omega
  have t34 : ((s[i].toNat : Int) == 34) = false := by simp; omega
  have t91 : ((s[i].toNat : Int) == 91) = false := by simp; omega
  have t123 : ((s[i].toNat : Int) == 123) = true := by simp [hc]
  have HC := Lib.hid (show ∀ w', RAt w' bp s i 0 d → Calls Tryz.prog 53 #[.pointer (some ⟨bp, 0, none⟩)] w' (RVal bp s w' i d) from hcall)
  clear h hc hcall
  go_enter Tryz.func29, Tryz.ntmps29
  go_wp2_with fail
  generalize w.alloc (.cells #[.int .i64 0, .int .i64 0, .string ⟨#[]⟩, .slice none 0 0, .slice none 0 0] 26 (0, 0)) = wa at *
  have c0 := HA.out.c0
  have c1 := HA.out.c1
  go_quiet (fail)
  go_wp2_with fail
  go_quiet (fail)
  go_wp2_with fail
  refine (HC.out _ (by exact HA.out)).mono ?_
  rintro e w3 (⟨k, n, t, an, ln, cn, ai, li, ci, jv, j, hjj, hj, ⟨rfl, A3, K3⟩, hR⟩ | ⟨k, n, t, an, ln, cn, ai, li, ci, q, p, hp, ⟨rfl, ⟨d3, A3⟩, K3⟩, hR⟩)
  · have HR := Lib.hid hR
    clear hR
    unfold str
    have HA3 := Lib.hid A3
    have HV3 := Lib.hid (HVB.out.keptK hbp (Kept.trans (by with_reducible repeat (first | assumption | apply Kept.drewN | apply Kept.set | exact Kept.refl _ _)) K3))
    obtain ⟨⟨e0, e1, e2, e3, e4⟩, ⟨f0, f1, f2, f3, f4⟩⟩ := HV3.out.facts
    clear A3 K3
    go_wp2_with fail
    refine bodyPost_ret (by simp [results, Tryz.results29, go_sem, e0, e1, e2, e3, e4]; try rfl) rfl ?_
    obtain ⟨q1, q2⟩ := HV3.out.five hbp HA3.out (.int .i64 k) (.int .i64 n) (.string ⟨t.toArray⟩) (.slice an ln cn) (.slice ai li ci)
    exact .inl ⟨k, n, t, an, ln, cn, ai, li, ci, jv, j, hjj, hj, ⟨rfl, q2, q1⟩, HR.out⟩
  · have HR := Lib.hid hR
    clear hR
    unfold str
    have HA3 := Lib.hid A3
    have HV3 := Lib.hid (HVB.out.keptK hbp (Kept.trans (by with_reducible repeat (first | assumption | apply Kept.drewN | apply Kept.set | exact Kept.refl _ _)) K3))
    obtain ⟨⟨e0, e1, e2, e3, e4⟩, ⟨f0, f1, f2, f3, f4⟩⟩ := HV3.out.facts
    clear A3 K3
    go_wp2_with fail
    refine bodyPost_ret (by simp [results, Tryz.results29, go_sem, e0, e1, e2, e3, e4]; try rfl) rfl ?_
    obtain ⟨q1, q2⟩ := HV3.out.five hbp HA3.out (.int .i64 k) (.int .i64 n) (.string ⟨t.toArray⟩) (.slice an ln cn) (.slice ai li ci)
    exact .inr ⟨k, n, t, an, ln, cn, ai, li, ci, q, p, hp, ⟨rfl, ⟨_, q2⟩, q1⟩, HR.out⟩

set_option maxRecDepth 100000 in
set_option maxHeartbeats 1000000 in
theorem r_val_minus (bp : Nat) (s : ByteArray) (i d : Nat) (w : World) (h : RAt w bp s i 0 d) (hs : s.size ≤ big) (hi : i < s.size) (hc : s[i].toNat = 45) :
    Calls Tryz.prog 29 #[.pointer (some ⟨bp, 0, none⟩)] w (RVal bp s w i d) := by
  have HS := Lib.hid hs
  unfold big at hs
  have hbp := h.lt
  have HVB := Lib.hid (VB.start w bp)
  have HA := Lib.hid (h.alloc (.cells #[.int .i64 0, .int .i64 0, .string ⟨#[]⟩, .slice none 0 0, .slice none 0 0] 26 (0, 0)))
  have hi' : (i : Int) < s.size := by omega
  have t110 : ((s[i].toNat : Int) == 110) = false := by simp; omega
  have t102 : ((s[i].toNat : Int) == 102) = false := by simp; omega
  have t116 : ((s[i].toNat : Int) == 116) = false := by simp; omega
  have t34 : ((s[i].toNat : Int) == 34) = false := by simp; omega
  have t91 : ((s[i].toNat : Int) == 91) = false := by simp; omega
  have t123 : ((s[i].toNat : Int) == 123) = false := by simp; omega
  have t45 : ((s[i].toNat : Int) == 45) = true := by simp [hc]
  have HN := Lib.hid (show (L s)[i]? = some 45 ∨ digitAt s i = true from .inl (by rw [L_get hi]; exact congrArg some (UInt8.toNat_inj.1 hc)))
  clear h hc
  go_enter Tryz.func29, Tryz.ntmps29
  go_wp2_with fail
  generalize w.alloc (.cells #[.int .i64 0, .int .i64 0, .string ⟨#[]⟩, .slice none 0 0, .slice none 0 0] 26 (0, 0)) = wa at *
  have c0 := HA.out.c0
  have c1 := HA.out.c1
  go_quiet (fail)
  go_wp2_with fail
  go_quiet (fail)
  go_wp2_with fail
  refine (r_number bp s i d _ (by exact HA.out) HS.out HN.out).mono ?_
  rintro e w3 (⟨v, j, hij, hjs, ⟨rfl, A3, K3⟩, hR⟩ | ⟨q, p, hp, ⟨rfl, ⟨d3, A3⟩, K3⟩, hR⟩)
  · have HR := Lib.hid hR
    clear hR
    have HA3 := Lib.hid A3
    have HV3 := Lib.hid (HVB.out.keptK hbp (Kept.trans (by with_reducible repeat (first | assumption | apply Kept.drewN | apply Kept.set | exact Kept.refl _ _)) K3))
    obtain ⟨⟨e0, e1, e2, e3, e4⟩, ⟨f0, f1, f2, f3, f4⟩⟩ := HV3.out.facts
    clear A3 K3
    go_wp2_with fail
    refine bodyPost_ret (by simp [results, Tryz.results29, go_sem, e0, e1, e2, e3, e4]; try rfl) rfl ?_
    obtain ⟨q1, q2⟩ := HV3.out.five hbp HA3.out (.int .i64 3) (.int .i64 v) (.string ⟨#[]⟩) (.slice none 0 0) (.slice none 0 0)
    exact .inl ⟨3, v, [], none, 0, 0, none, 0, 0, .num v, j, hij, hjs, ⟨rfl, q2, q1⟩, fun K hK => HR.out K⟩
  · have HR := Lib.hid hR
    clear hR
    have HA3 := Lib.hid A3
    have HV3 := Lib.hid (HVB.out.keptK hbp (Kept.trans (by with_reducible repeat (first | assumption | apply Kept.drewN | apply Kept.set | exact Kept.refl _ _)) K3))
    obtain ⟨⟨e0, e1, e2, e3, e4⟩, ⟨f0, f1, f2, f3, f4⟩⟩ := HV3.out.facts
    clear A3 K3
    go_wp2_with fail
    refine bodyPost_ret (by simp [results, Tryz.results29, go_sem, e0, e1, e2, e3, e4]; try rfl) rfl ?_
    obtain ⟨q1, q2⟩ := HV3.out.five hbp HA3.out (.int .i64 3) (.int .i64 0) (.string ⟨#[]⟩) (.slice none 0 0) (.slice none 0 0)
    exact .inr ⟨3, 0, [], none, 0, 0, none, 0, 0, q, p, hp, ⟨rfl, ⟨_, q2⟩, q1⟩, fun K hK => HR.out K⟩

set_option maxRecDepth 100000 in
set_option maxHeartbeats 1000000 in
theorem r_val_digit (bp : Nat) (s : ByteArray) (i d : Nat) (w : World) (h : RAt w bp s i 0 d) (hs : s.size ≤ big) (hi : i < s.size) (h0 : 48 ≤ s[i].toNat) (h9 : s[i].toNat ≤ 57) :
    Calls Tryz.prog 29 #[.pointer (some ⟨bp, 0, none⟩)] w (RVal bp s w i d) := by
  have HS := Lib.hid hs
  unfold big at hs
  have hbp := h.lt
  have HVB := Lib.hid (VB.start w bp)
  have HA := Lib.hid (h.alloc (.cells #[.int .i64 0, .int .i64 0, .string ⟨#[]⟩, .slice none 0 0, .slice none 0 0] 26 (0, 0)))
  have hi' : (i : Int) < s.size := by omega
  have t110 : ((s[i].toNat : Int) == 110) = false := by simp; omega
  have t102 : ((s[i].toNat : Int) == 102) = false := by simp; omega
  have t116 : ((s[i].toNat : Int) == 116) = false := by simp; omega
  have t34 : ((s[i].toNat : Int) == 34) = false := by simp; omega
  have t91 : ((s[i].toNat : Int) == 91) = false := by simp; omega
  have t123 : ((s[i].toNat : Int) == 123) = false := by simp; omega
  have t45 : ((s[i].toNat : Int) == 45) = false := by simp; omega
  have g0 : (48 : Int) ≤ (s[i].toNat : Int) := by omega
  have g1 : (s[i].toNat : Int) ≤ 57 := by omega
  have HN := Lib.hid (show (L s)[i]? = some 45 ∨ digitAt s i = true from .inr (by simp [digitAt, L_get hi, isDigit_nat]; omega))
  clear h h0 h9
  go_enter Tryz.func29, Tryz.ntmps29
  go_wp2_with fail
  generalize w.alloc (.cells #[.int .i64 0, .int .i64 0, .string ⟨#[]⟩, .slice none 0 0, .slice none 0 0] 26 (0, 0)) = wa at *
  have c0 := HA.out.c0
  have c1 := HA.out.c1
  go_quiet (fail)
  go_wp2_with fail
  go_quiet (fail)
  go_wp2_with fail
  refine (r_number bp s i d _ (by exact HA.out) HS.out HN.out).mono ?_
  rintro e w3 (⟨v, j, hij, hjs, ⟨rfl, A3, K3⟩, hR⟩ | ⟨q, p, hp, ⟨rfl, ⟨d3, A3⟩, K3⟩, hR⟩)
  · have HR := Lib.hid hR
    clear hR
    have HA3 := Lib.hid A3
    have HV3 := Lib.hid (HVB.out.keptK hbp (Kept.trans (by with_reducible repeat (first | assumption | apply Kept.drewN | apply Kept.set | exact Kept.refl _ _)) K3))
    obtain ⟨⟨e0, e1, e2, e3, e4⟩, ⟨f0, f1, f2, f3, f4⟩⟩ := HV3.out.facts
    clear A3 K3
    go_wp2_with fail
    refine bodyPost_ret (by simp [results, Tryz.results29, go_sem, e0, e1, e2, e3, e4]; try rfl) rfl ?_
    obtain ⟨q1, q2⟩ := HV3.out.five hbp HA3.out (.int .i64 3) (.int .i64 v) (.string ⟨#[]⟩) (.slice none 0 0) (.slice none 0 0)
    exact .inl ⟨3, v, [], none, 0, 0, none, 0, 0, .num v, j, hij, hjs, ⟨rfl, q2, q1⟩, fun K hK => HR.out K⟩
  · have HR := Lib.hid hR
    clear hR
    have HA3 := Lib.hid A3
    have HV3 := Lib.hid (HVB.out.keptK hbp (Kept.trans (by with_reducible repeat (first | assumption | apply Kept.drewN | apply Kept.set | exact Kept.refl _ _)) K3))
    obtain ⟨⟨e0, e1, e2, e3, e4⟩, ⟨f0, f1, f2, f3, f4⟩⟩ := HV3.out.facts
    clear A3 K3
    go_wp2_with fail
    refine bodyPost_ret (by simp [results, Tryz.results29, go_sem, e0, e1, e2, e3, e4]; try rfl) rfl ?_
    obtain ⟨q1, q2⟩ := HV3.out.five hbp HA3.out (.int .i64 3) (.int .i64 0) (.string ⟨#[]⟩) (.slice none 0 0) (.slice none 0 0)
    exact .inr ⟨3, 0, [], none, 0, 0, none, 0, 0, q, p, hp, ⟨rfl, ⟨_, q2⟩, q1⟩, fun K hK => HR.out K⟩

set_option maxRecDepth 100000 in
set_option maxHeartbeats 1000000 in
theorem r_val_low (bp : Nat) (s : ByteArray) (i d : Nat) (w : World) (h : RAt w bp s i 0 d) (hs : s.size ≤ big) (hi : i < s.size) (hnb : isBlank s[i] = false) (h110 : s[i].toNat ≠ 110) (h102 : s[i].toNat ≠ 102) (h116 : s[i].toNat ≠ 116) (h34 : s[i].toNat ≠ 34) (h91 : s[i].toNat ≠ 91) (h123 : s[i].toNat ≠ 123) (h45 : s[i].toNat ≠ 45) (hx : s[i].toNat < 48) :
    Calls Tryz.prog 29 #[.pointer (some ⟨bp, 0, none⟩)] w (RVal bp s w i d) := by
  have HS := Lib.hid hs
  unfold big at hs
  have hbp := h.lt
  have HVB := Lib.hid (VB.start w bp)
  have HA := Lib.hid (h.alloc (.cells #[.int .i64 0, .int .i64 0, .string ⟨#[]⟩, .slice none 0 0, .slice none 0 0] 26 (0, 0)))
  have hi' : (i : Int) < s.size := by omega
  have t110 : ((s[i].toNat : Int) == 110) = false := by simp; omega
  have t102 : ((s[i].toNat : Int) == 102) = false := by simp; omega
  have t116 : ((s[i].toNat : Int) == 116) = false := by simp; omega
  have t34 : ((s[i].toNat : Int) == 34) = false := by simp; omega
  have t91 : ((s[i].toNat : Int) == 91) = false := by simp; omega
  have t123 : ((s[i].toNat : Int) == 123) = false := by simp; omega
  have t45 : ((s[i].toNat : Int) == 45) = false := by simp; omega
  have g0 : ¬ (48 : Int) ≤ (s[i].toNat : Int) := by omega
  have hile : i ≤ s.size := by omega
  have HNO := Lib.hid (show ∀ c, (L s)[i]? = some c → NumStart c ∧ c ≠ 45 ∧ isDigit c = false from fun c hc => by
    rw [L_get hi] at hc; cases hc
    have ne : ∀ m : UInt8, s[i].toNat ≠ m.toNat → s[i] ≠ m := fun m h e => h (by rw [e])
    refine ⟨⟨hnb, ne 110 h110, ne 102 h102, ne 116 h116, ne 34 h34, ne 91 h91, ne 123 h123⟩, ne 45 h45, ?_⟩
    rw [isDigit_nat]; simp; omega)
  clear h hx hnb h110 h102 h116 h34 h91 h123 h45
  go_enter Tryz.func29, Tryz.ntmps29
  go_wp2_with fail
  generalize w.alloc (.cells #[.int .i64 0, .int .i64 0, .string ⟨#[]⟩, .slice none 0 0, .slice none 0 0] 26 (0, 0)) = wa at *
  have c0 := HA.out.c0
  have c1 := HA.out.c1
  go_quiet (fail)
  go_wp2_with fail
  go_quiet (fail)
  go_wp2_with fail
  refine (r_wrong bp s i 0 d 40 _ (by exact HA.out)).mono ?_
  rintro e w3 ⟨rfl, ⟨d3, A3⟩, K3⟩
  have HA3 := Lib.hid A3
  have HV3 := Lib.hid (HVB.out.keptK hbp (Kept.trans (by with_reducible repeat (first | assumption | apply Kept.drewN | apply Kept.set | exact Kept.refl _ _)) K3))
  obtain ⟨⟨e0, e1, e2, e3, e4⟩, ⟨f0, f1, f2, f3, f4⟩⟩ := HV3.out.facts
  clear A3 K3
  go_wp2_with fail
  refine bodyPost_ret (by simp [results, Tryz.results29, go_sem, e0, e1, e2, e3, e4]; try rfl) rfl ?_
  obtain ⟨q1, q2⟩ := HV3.out.five hbp HA3.out (.int .i64 0) (.int .i64 0) (.string ⟨#[]⟩) (.slice none 0 0) (.slice none 0 0)
  exact .inr ⟨0, 0, [], none, 0, 0, none, 0, 0, 40, i, hile, ⟨rfl, ⟨_, q2⟩, q1⟩, fun K hK => val_none HNO.out K⟩

set_option maxRecDepth 100000 in
set_option maxHeartbeats 1000000 in
theorem r_val_high (bp : Nat) (s : ByteArray) (i d : Nat) (w : World) (h : RAt w bp s i 0 d) (hs : s.size ≤ big) (hi : i < s.size) (hnb : isBlank s[i] = false) (h110 : s[i].toNat ≠ 110) (h102 : s[i].toNat ≠ 102) (h116 : s[i].toNat ≠ 116) (h34 : s[i].toNat ≠ 34) (h91 : s[i].toNat ≠ 91) (h123 : s[i].toNat ≠ 123) (h45 : s[i].toNat ≠ 45) (hx : 57 < s[i].toNat) :
    Calls Tryz.prog 29 #[.pointer (some ⟨bp, 0, none⟩)] w (RVal bp s w i d) := by
  have HS := Lib.hid hs
  unfold big at hs
  have hbp := h.lt
  have HVB := Lib.hid (VB.start w bp)
  have HA := Lib.hid (h.alloc (.cells #[.int .i64 0, .int .i64 0, .string ⟨#[]⟩, .slice none 0 0, .slice none 0 0] 26 (0, 0)))
  have hi' : (i : Int) < s.size := by omega
  have t110 : ((s[i].toNat : Int) == 110) = false := by simp; omega
  have t102 : ((s[i].toNat : Int) == 102) = false := by simp; omega
  have t116 : ((s[i].toNat : Int) == 116) = false := by simp; omega
  have t34 : ((s[i].toNat : Int) == 34) = false := by simp; omega
  have t91 : ((s[i].toNat : Int) == 91) = false := by simp; omega
  have t123 : ((s[i].toNat : Int) == 123) = false := by simp; omega
  have t45 : ((s[i].toNat : Int) == 45) = false := by simp; omega
  have g0 : (48 : Int) ≤ (s[i].toNat : Int) := by omega
  have g1 : ¬ (s[i].toNat : Int) ≤ 57 := by omega
  have hile : i ≤ s.size := by omega
  have HNO := Lib.hid (show ∀ c, (L s)[i]? = some c → NumStart c ∧ c ≠ 45 ∧ isDigit c = false from fun c hc => by
    rw [L_get hi] at hc; cases hc
    have ne : ∀ m : UInt8, s[i].toNat ≠ m.toNat → s[i] ≠ m := fun m h e => h (by rw [e])
    refine ⟨⟨hnb, ne 110 h110, ne 102 h102, ne 116 h116, ne 34 h34, ne 91 h91, ne 123 h123⟩, ne 45 h45, ?_⟩
    rw [isDigit_nat]; simp; omega)
  clear h hx hnb h110 h102 h116 h34 h91 h123 h45
  go_enter Tryz.func29, Tryz.ntmps29
  go_wp2_with fail
  generalize w.alloc (.cells #[.int .i64 0, .int .i64 0, .string ⟨#[]⟩, .slice none 0 0, .slice none 0 0] 26 (0, 0)) = wa at *
  have c0 := HA.out.c0
  have c1 := HA.out.c1
  go_quiet (fail)
  go_wp2_with fail
  go_quiet (fail)
  go_wp2_with fail
  refine (r_wrong bp s i 0 d 40 _ (by exact HA.out)).mono ?_
  rintro e w3 ⟨rfl, ⟨d3, A3⟩, K3⟩
  have HA3 := Lib.hid A3
  have HV3 := Lib.hid (HVB.out.keptK hbp (Kept.trans (by with_reducible repeat (first | assumption | apply Kept.drewN | apply Kept.set | exact Kept.refl _ _)) K3))
  obtain ⟨⟨e0, e1, e2, e3, e4⟩, ⟨f0, f1, f2, f3, f4⟩⟩ := HV3.out.facts
  clear A3 K3
  go_wp2_with fail
  refine bodyPost_ret (by simp [results, Tryz.results29, go_sem, e0, e1, e2, e3, e4]; try rfl) rfl ?_
  obtain ⟨q1, q2⟩ := HV3.out.five hbp HA3.out (.int .i64 0) (.int .i64 0) (.string ⟨#[]⟩) (.slice none 0 0) (.slice none 0 0)
  exact .inr ⟨0, 0, [], none, 0, 0, none, 0, 0, 40, i, hile, ⟨rfl, ⟨_, q2⟩, q1⟩, fun K hK => val_none HNO.out K⟩

set_option maxRecDepth 100000 in
set_option maxHeartbeats 1000000 in
theorem r_val_end (bp : Nat) (s : ByteArray) (i d : Nat) (w : World) (h : RAt w bp s i 0 d) (hs : s.size ≤ big) (hi : i = s.size) :
    Calls Tryz.prog 29 #[.pointer (some ⟨bp, 0, none⟩)] w (RVal bp s w i d) := by
  have HS := Lib.hid hs
  unfold big at hs
  have hbp := h.lt
  have HVB := Lib.hid (VB.start w bp)
  have HA := Lib.hid (h.alloc (.cells #[.int .i64 0, .int .i64 0, .string ⟨#[]⟩, .slice none 0 0, .slice none 0 0] 26 (0, 0)))
  have hi' : decide ((i : Int) < s.size) = false := by simp; omega
  have hlt : ¬ i < s.size := by omega
  have hile : i ≤ s.size := by omega
  have HNO := Lib.hid (show ∀ c, (L s)[i]? = some c → NumStart c ∧ c ≠ 45 ∧ isDigit c = false from fun c hc => by rw [L_end (by omega)] at hc; cases hc)
  clear h hi
  go_enter Tryz.func29, Tryz.ntmps29
  go_wp2_with fail
  generalize w.alloc (.cells #[.int .i64 0, .int .i64 0, .string ⟨#[]⟩, .slice none 0 0, .slice none 0 0] 26 (0, 0)) = wa at *
  have c0 := HA.out.c0
  have c1 := HA.out.c1
  go_quiet (fail)
  go_wp2_with fail
  refine (r_wrong bp s i 0 d 40 _ (by exact HA.out)).mono ?_
  rintro e w3 ⟨rfl, ⟨d3, A3⟩, K3⟩
  have HA3 := Lib.hid A3
  have HV3 := Lib.hid (HVB.out.keptK hbp (Kept.trans (by with_reducible repeat (first | assumption | apply Kept.drewN | apply Kept.set | exact Kept.refl _ _)) K3))
  obtain ⟨⟨e0, e1, e2, e3, e4⟩, ⟨f0, f1, f2, f3, f4⟩⟩ := HV3.out.facts
  clear A3 K3
  go_wp2_with fail
  refine bodyPost_ret (by simp [results, Tryz.results29, go_sem, e0, e1, e2, e3, e4]; try rfl) rfl ?_
  obtain ⟨q1, q2⟩ := HV3.out.five hbp HA3.out (.int .i64 0) (.int .i64 0) (.string ⟨#[]⟩) (.slice none 0 0) (.slice none 0 0)
  exact .inr ⟨0, 0, [], none, 0, 0, none, 0, 0, 40, i, hile, ⟨rfl, ⟨_, q2⟩, q1⟩, fun K hK => val_none HNO.out K⟩

theorem r_value_step (s : ByteArray) (d : Nat) (hs : s.size ≤ big) (hlist : ∀ (bp i : Nat) (w : World), RAt w bp s i 0 d → i < s.size → (L s)[i]? = some 91 → Calls Tryz.prog 52 #[.pointer (some ⟨bp, 0, none⟩)] w (RVal bp s w i d))
    (hobj : ∀ (bp i : Nat) (w : World), RAt w bp s i 0 d → i < s.size → (L s)[i]? = some 123 → Calls Tryz.prog 53 #[.pointer (some ⟨bp, 0, none⟩)] w (RVal bp s w i d)) : ValueR s d := by
  intro bp i w h hi hnb
  by_cases hl : i < s.size
  · have hg := L_get hl
    by_cases h110 : s[i].toNat = 110
    · exact r_val_null bp s i d w h hs hl h110
    by_cases h102 : s[i].toNat = 102
    · exact r_val_false bp s i d w h hs hl h102
    by_cases h116 : s[i].toNat = 116
    · exact r_val_true bp s i d w h hs hl h116
    by_cases h34 : s[i].toNat = 34
    · exact r_val_text bp s i d w h hs hl h34
    by_cases h91 : s[i].toNat = 91
    · exact r_val_list bp s i d w h hs hl h91 fun w' h' => hlist bp i w' h' hl (by rw [hg]; exact congrArg some (UInt8.toNat_inj.1 h91))
    by_cases h123 : s[i].toNat = 123
    · exact r_val_object bp s i d w h hs hl h123 fun w' h' => hobj bp i w' h' hl (by rw [hg]; exact congrArg some (UInt8.toNat_inj.1 h123))
    by_cases h45 : s[i].toNat = 45
    · exact r_val_minus bp s i d w h hs hl h45
    by_cases hlo : s[i].toNat < 48
    · exact r_val_low bp s i d w h hs hl (hnb _ hg) h110 h102 h116 h34 h91 h123 h45 hlo
    by_cases hhi : 57 < s[i].toNat
    · exact r_val_high bp s i d w h hs hl (hnb _ hg) h110 h102 h116 h34 h91 h123 h45 hhi
    · exact r_val_digit bp s i d w h hs hl (by omega) (by omega)
  · exact r_val_end bp s i d w h hs (by omega)

/-- value, at every depth. -/
theorem r_value (s : ByteArray) (hs : s.size ≤ big) : ∀ n d, d + n = 16 → ValueR s d
  | 0, d, h => by
    obtain rfl : d = 16 := by omega
    exact r_value_step s 16 hs (fun bp i w h hi hc => r_list_deep bp s i w h hi hc) (fun bp i w h hi hc => r_object_deep bp s i w h hi hc)
  | n + 1, d, h => by
    have ih := r_value s hs n (d + 1) (by omega)
    exact r_value_step s d hs (fun bp i w h' hi hc => r_list_any bp s i d w h' hi hs hc (by omega) ih) (fun bp i w h' hi hc => r_object_any bp s i d w h' hi hs hc (by omega) ih)

#print axioms r_value

end Jot
end Go.Proofs.YthgcnmdnjfajbaaGreatDoor
