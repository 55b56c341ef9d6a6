/- Walk over the reference's reader: escape (printed by gen_resc.py). Conditions: a reader that stands behind a backslash. -/
import Derived.Test.YthgcnmdnjfajbaaGreatDoorRefI
namespace Go.Proofs.YthgcnmdnjfajbaaGreatDoor
open Go.RowKit
namespace Jot

/-- escape: the letter's bytes, or what is wrong. -/
def REsc (bp : Nat) (s : ByteArray) (w : World) (i d : Nat) (e : Ending) (w' : World) : Prop :=
  (∃ (t : Bs) (j : Nat), i < j ∧ j ≤ s.size ∧ t.length ≤ 4 ∧ RWent bp s w (.tuple #[str t, .bool true]) j d e w' ∧ ∀ key acc K, R (L s) i ⟨.text key .esc acc, K⟩ = R (L s) j ⟨.text key .plain (acc ++ t), K⟩) ∨
  (∃ p, p ≤ s.size ∧ RGave bp s w (.tuple #[.string ⟨#[]⟩, .bool false]) 40 p e w' ∧ ∀ key acc K, R (L s) i ⟨.text key .esc acc, K⟩ = .bad eForm p)

theorem resc_go {l : Bs} {i : Nat} {c b : UInt8} (hc : l[i]? = some c) (hu : c ≠ 117) (hb : escByte c = some b) (key : Bool) (acc : Bs) (K : List Fr) :
    R l i ⟨.text key .esc acc, K⟩ = R l (i + 1) ⟨.text key .plain (acc ++ [b]), K⟩ := by
  rw [R_go hc]
  simp only [δ, dText, hb]
  rw [if_neg hu]

theorem resc_u {l : Bs} {i : Nat} (hc : l[i]? = some 117) (key : Bool) (acc : Bs) (K : List Fr) :
    R l i ⟨.text key .esc acc, K⟩ = R l (i + 1) ⟨.text key (.hex 0 0) acc, K⟩ := by
  rw [R_go hc]; simp [δ, dText]

theorem resc_bad {l : Bs} {i : Nat} (h : ∀ c, l[i]? = some c → c ≠ 117 ∧ escByte c = none) (key : Bool) (acc : Bs) (K : List Fr) :
    R l i ⟨.text key .esc acc, K⟩ = .bad eForm i := by
  cases hc : l[i]? with
  | none => rw [R_end (List.getElem?_eq_none_iff.1 hc)]; cases K <;> simp [eof]
  | some c =>
    obtain ⟨h1, h2⟩ := h c hc
    rw [R_bad hc (e := eForm)]
    simp only [δ, dText, h2]
    rw [if_neg h1]

theorem conv_litN (b : UInt8) (w : World) (n : Nat) : (convert 52 9 (.slice (some ⟨w.heap.size, 0, none⟩) 1 1)).run Tryz.prog ((w.drewN n).alloc (.cells #[.int .u8 (b.toNat : Int)] 5 (0, 0))) = .ok (.string ⟨#[b]⟩) ((w.drewN n).alloc (.cells #[.int .u8 (b.toNat : Int)] 5 (0, 0))) := by
  refine conv_own (B := 0) (acc := [b]) ?_
  have := World.ownsRow_lit (base := 0) (e := 5) (size := 1) (w.drewN n) (bc [b]).toArray 1 (Nat.zero_le _) (by unfold maxLen; omega) (by simp [bc_len])
  exact this

set_option maxRecDepth 100000 in
set_option maxHeartbeats 1000000 in
theorem r_esc_34 (bp : Nat) (s : ByteArray) (i d : Nat) (w : World) (h : RAt w bp s i 0 d) (hs : s.size ≤ big) (hi : i < s.size) (hc : s[i].toNat = 34) :
    Calls Tryz.prog 70 #[.pointer (some ⟨bp, 0, none⟩)] w (REsc bp s w i d) := by
  have HS := Lib.hid hs
  unfold big at hs
  have c0 := h.c0
  have c1 := h.c1
  have f1 := h.f1
  have H := Lib.hid h
  have hi' : (i : Int) < s.size := by omega
  have hne : ((i : Int) == (s.size : Int)) = false := by simp; omega
  have t34 : ((s[i].toNat : Int) == 34) = true := by simp [hc]
  have HC := Lib.hid (show (L s)[i]? = some 34 by rw [L_get hi]; exact congrArg some (UInt8.toNat_inj.1 hc))
  have HB := Lib.hid (show s[i] = 34 from UInt8.toNat_inj.1 hc)
  have hcv := fun n => conv_litN s[i] w n
  have c1a := fun n o => ((h.drewN n).alloc o).c1
  have f1a := fun n o => ((h.drewN n).alloc o).f1
  clear h hc
  go_enter Tryz.func70, Tryz.ntmps70
  go_wp2_with fail
  go_quiet (fail)
  go_wp2_with fail
  go_quiet (fail)
  go_wp2_with fail
  go_ret2
  refine .inl ⟨[34], i + 1, by omega, by omega, by simp, ⟨by rw [HB.out]; rfl, ((H.out.drewN _).alloc _).set1 (i + 1), ?_⟩, fun key acc K => resc_go HC.out (by decide) (by decide) key acc K⟩
  exact (((Kept.refl _ _).drewN _).alloc _).set 1 _

set_option maxRecDepth 100000 in
set_option maxHeartbeats 1000000 in
theorem r_esc_92 (bp : Nat) (s : ByteArray) (i d : Nat) (w : World) (h : RAt w bp s i 0 d) (hs : s.size ≤ big) (hi : i < s.size) (hc : s[i].toNat = 92) :
    Calls Tryz.prog 70 #[.pointer (some ⟨bp, 0, none⟩)] w (REsc bp s w i d) := by
  have HS := Lib.hid hs
  unfold big at hs
  have c0 := h.c0
  have c1 := h.c1
  have f1 := h.f1
  have H := Lib.hid h
  have hi' : (i : Int) < s.size := by omega
  have hne : ((i : Int) == (s.size : Int)) = false := by simp; omega
  have t34 : ((s[i].toNat : Int) == 34) = false := by simp [hc]
  have t92 : ((s[i].toNat : Int) == 92) = true := by simp [hc]
  have HC := Lib.hid (show (L s)[i]? = some 92 by rw [L_get hi]; exact congrArg some (UInt8.toNat_inj.1 hc))
  have HB := Lib.hid (show s[i] = 92 from UInt8.toNat_inj.1 hc)
  have hcv := fun n => conv_litN s[i] w n
  have c1a := fun n o => ((h.drewN n).alloc o).c1
  have f1a := fun n o => ((h.drewN n).alloc o).f1
  clear h hc
  go_enter Tryz.func70, Tryz.ntmps70
  go_wp2_with fail
  go_quiet (fail)
  go_wp2_with fail
  go_quiet (fail)
  go_wp2_with fail
  go_ret2
  refine .inl ⟨[92], i + 1, by omega, by omega, by simp, ⟨by rw [HB.out]; rfl, ((H.out.drewN _).alloc _).set1 (i + 1), ?_⟩, fun key acc K => resc_go HC.out (by decide) (by decide) key acc K⟩
  exact (((Kept.refl _ _).drewN _).alloc _).set 1 _

set_option maxRecDepth 100000 in
set_option maxHeartbeats 1000000 in
theorem r_esc_47 (bp : Nat) (s : ByteArray) (i d : Nat) (w : World) (h : RAt w bp s i 0 d) (hs : s.size ≤ big) (hi : i < s.size) (hc : s[i].toNat = 47) :
    Calls Tryz.prog 70 #[.pointer (some ⟨bp, 0, none⟩)] w (REsc bp s w i d) := by
  have HS := Lib.hid hs
  unfold big at hs
  have c0 := h.c0
  have c1 := h.c1
  have f1 := h.f1
  have H := Lib.hid h
  have hi' : (i : Int) < s.size := by omega
  have hne : ((i : Int) == (s.size : Int)) = false := by simp; omega
  have t34 : ((s[i].toNat : Int) == 34) = false := by simp [hc]
  have t92 : ((s[i].toNat : Int) == 92) = false := by simp [hc]
  have t47 : ((s[i].toNat : Int) == 47) = true := by simp [hc]
  have HC := Lib.hid (show (L s)[i]? = some 47 by rw [L_get hi]; exact congrArg some (UInt8.toNat_inj.1 hc))
  have HB := Lib.hid (show s[i] = 47 from UInt8.toNat_inj.1 hc)
  have hcv := fun n => conv_litN s[i] w n
  have c1a := fun n o => ((h.drewN n).alloc o).c1
  have f1a := fun n o => ((h.drewN n).alloc o).f1
  clear h hc
  go_enter Tryz.func70, Tryz.ntmps70
  go_wp2_with fail
  go_quiet (fail)
  go_wp2_with fail
  go_quiet (fail)
  go_wp2_with fail
  go_ret2
  refine .inl ⟨[47], i + 1, by omega, by omega, by simp, ⟨by rw [HB.out]; rfl, ((H.out.drewN _).alloc _).set1 (i + 1), ?_⟩, fun key acc K => resc_go HC.out (by decide) (by decide) key acc K⟩
  exact (((Kept.refl _ _).drewN _).alloc _).set 1 _

set_option maxRecDepth 100000 in
set_option maxHeartbeats 1000000 in
theorem r_esc_98 (bp : Nat) (s : ByteArray) (i d : Nat) (w : World) (h : RAt w bp s i 0 d) (hs : s.size ≤ big) (hi : i < s.size) (hc : s[i].toNat = 98) :
    Calls Tryz.prog 70 #[.pointer (some ⟨bp, 0, none⟩)] w (REsc bp s w i d) := by
  have HS := Lib.hid hs
  unfold big at hs
  have c0 := h.c0
  have c1 := h.c1
  have f1 := h.f1
  have H := Lib.hid h
  have hi' : (i : Int) < s.size := by omega
  have hne : ((i : Int) == (s.size : Int)) = false := by simp; omega
  have t34 : ((s[i].toNat : Int) == 34) = false := by simp [hc]
  have t92 : ((s[i].toNat : Int) == 92) = false := by simp [hc]
  have t47 : ((s[i].toNat : Int) == 47) = false := by simp [hc]
  have t98 : ((s[i].toNat : Int) == 98) = true := by simp [hc]
  have HC := Lib.hid (show (L s)[i]? = some 98 by rw [L_get hi]; exact congrArg some (UInt8.toNat_inj.1 hc))
  clear h hc
  go_enter Tryz.func70, Tryz.ntmps70
  go_wp2_with fail
  go_quiet (fail)
  go_wp2_with fail
  go_quiet (fail)
  go_wp2_with fail
  go_ret2
  exact .inl ⟨[8], i + 1, by omega, by omega, by simp, ⟨rfl, (H.out.drewN _).set1 (i + 1), by with_reducible repeat (first | assumption | apply Kept.drewN | apply Kept.set | exact Kept.refl _ _)⟩, fun key acc K => resc_go HC.out (by decide) (by decide) key acc K⟩

set_option maxRecDepth 100000 in
set_option maxHeartbeats 1000000 in
theorem r_esc_102 (bp : Nat) (s : ByteArray) (i d : Nat) (w : World) (h : RAt w bp s i 0 d) (hs : s.size ≤ big) (hi : i < s.size) (hc : s[i].toNat = 102) :
    Calls Tryz.prog 70 #[.pointer (some ⟨bp, 0, none⟩)] w (REsc bp s w i d) := by
  have HS := Lib.hid hs
  unfold big at hs
  have c0 := h.c0
  have c1 := h.c1
  have f1 := h.f1
  have H := Lib.hid h
  have hi' : (i : Int) < s.size := by omega
  have hne : ((i : Int) == (s.size : Int)) = false := by simp; omega
  have t34 : ((s[i].toNat : Int) == 34) = false := by simp [hc]
  have t92 : ((s[i].toNat : Int) == 92) = false := by simp [hc]
  have t47 : ((s[i].toNat : Int) == 47) = false := by simp [hc]
  have t98 : ((s[i].toNat : Int) == 98) = false := by simp [hc]
  have t102 : ((s[i].toNat : Int) == 102) = true := by simp [hc]
  have HC := Lib.hid (show (L s)[i]? = some 102 by rw [L_get hi]; exact congrArg some (UInt8.toNat_inj.1 hc))
  clear h hc
  go_enter Tryz.func70, Tryz.ntmps70
  go_wp2_with fail
  go_quiet (fail)
  go_wp2_with fail
  go_quiet (fail)
  go_wp2_with fail
  go_ret2
  exact .inl ⟨[12], i + 1, by omega, by omega, by simp, ⟨rfl, (H.out.drewN _).set1 (i + 1), by with_reducible repeat (first | assumption | apply Kept.drewN | apply Kept.set | exact Kept.refl _ _)⟩, fun key acc K => resc_go HC.out (by decide) (by decide) key acc K⟩

set_option maxRecDepth 100000 in
set_option maxHeartbeats 1000000 in
theorem r_esc_110 (bp : Nat) (s : ByteArray) (i d : Nat) (w : World) (h : RAt w bp s i 0 d) (hs : s.size ≤ big) (hi : i < s.size) (hc : s[i].toNat = 110) :
    Calls Tryz.prog 70 #[.pointer (some ⟨bp, 0, none⟩)] w (REsc bp s w i d) := by
  have HS := Lib.hid hs
  unfold big at hs
  have c0 := h.c0
  have c1 := h.c1
  have f1 := h.f1
  have H := Lib.hid h
  have hi' : (i : Int) < s.size := by omega
  have hne : ((i : Int) == (s.size : Int)) = false := by simp; omega
  have t34 : ((s[i].toNat : Int) == 34) = false := by simp [hc]
  have t92 : ((s[i].toNat : Int) == 92) = false := by simp [hc]
  have t47 : ((s[i].toNat : Int) == 47) = false := by simp [hc]
  have t98 : ((s[i].toNat : Int) == 98) = false := by simp [hc]
  have t102 : ((s[i].toNat : Int) == 102) = false := by simp [hc]
  have t110 : ((s[i].toNat : Int) == 110) = true := by simp [hc]
  have HC := Lib.hid (show (L s)[i]? = some 110 by rw [L_get hi]; exact congrArg some (UInt8.toNat_inj.1 hc))
  clear h hc
  go_enter Tryz.func70, Tryz.ntmps70
  go_wp2_with fail
  go_quiet (fail)
  go_wp2_with fail
  go_quiet (fail)
  go_wp2_with fail
  go_ret2
  exact .inl ⟨[10], i + 1, by omega, by omega, by simp, ⟨rfl, (H.out.drewN _).set1 (i + 1), by with_reducible repeat (first | assumption | apply Kept.drewN | apply Kept.set | exact Kept.refl _ _)⟩, fun key acc K => resc_go HC.out (by decide) (by decide) key acc K⟩

set_option maxRecDepth 100000 in
set_option maxHeartbeats 1000000 in
theorem r_esc_114 (bp : Nat) (s : ByteArray) (i d : Nat) (w : World) (h : RAt w bp s i 0 d) (hs : s.size ≤ big) (hi : i < s.size) (hc : s[i].toNat = 114) :
    Calls Tryz.prog 70 #[.pointer (some ⟨bp, 0, none⟩)] w (REsc bp s w i d) := by
  have HS := Lib.hid hs
  unfold big at hs
  have c0 := h.c0
  have c1 := h.c1
  have f1 := h.f1
  have H := Lib.hid h
  have hi' : (i : Int) < s.size := by omega
  have hne : ((i : Int) == (s.size : Int)) = false := by simp; omega
  have t34 : ((s[i].toNat : Int) == 34) = false := by simp [hc]
  have t92 : ((s[i].toNat : Int) == 92) = false := by simp [hc]
  have t47 : ((s[i].toNat : Int) == 47) = false := by simp [hc]
  have t98 : ((s[i].toNat : Int) == 98) = false := by simp [hc]
  have t102 : ((s[i].toNat : Int) == 102) = false := by simp [hc]
  have t110 : ((s[i].toNat : Int) == 110) = false := by simp [hc]
  have t114 : ((s[i].toNat : Int) == 114) = true := by simp [hc]
  have HC := Lib.hid (show (L s)[i]? = some 114 by rw [L_get hi]; exact congrArg some (UInt8.toNat_inj.1 hc))
  clear h hc
  go_enter Tryz.func70, Tryz.ntmps70
  go_wp2_with fail
  go_quiet (fail)
  go_wp2_with fail
  go_quiet (fail)
  go_wp2_with fail
  go_ret2
  exact .inl ⟨[13], i + 1, by omega, by omega, by simp, ⟨rfl, (H.out.drewN _).set1 (i + 1), by with_reducible repeat (first | assumption | apply Kept.drewN | apply Kept.set | exact Kept.refl _ _)⟩, fun key acc K => resc_go HC.out (by decide) (by decide) key acc K⟩

set_option maxRecDepth 100000 in
set_option maxHeartbeats 1000000 in
theorem r_esc_116 (bp : Nat) (s : ByteArray) (i d : Nat) (w : World) (h : RAt w bp s i 0 d) (hs : s.size ≤ big) (hi : i < s.size) (hc : s[i].toNat = 116) :
    Calls Tryz.prog 70 #[.pointer (some ⟨bp, 0, none⟩)] w (REsc bp s w i d) := by
  have HS := Lib.hid hs
  unfold big at hs
  have c0 := h.c0
  have c1 := h.c1
  have f1 := h.f1
  have H := Lib.hid h
  have hi' : (i : Int) < s.size := by omega
  have hne : ((i : Int) == (s.size : Int)) = false := by simp; omega
  have t34 : ((s[i].toNat : Int) == 34) = false := by simp [hc]
  have t92 : ((s[i].toNat : Int) == 92) = false := by simp [hc]
  have t47 : ((s[i].toNat : Int) == 47) = false := by simp [hc]
  have t98 : ((s[i].toNat : Int) == 98) = false := by simp [hc]
  have t102 : ((s[i].toNat : Int) == 102) = false := by simp [hc]
  have t110 : ((s[i].toNat : Int) == 110) = false := by simp [hc]
  have t114 : ((s[i].toNat : Int) == 114) = false := by simp [hc]
  have t116 : ((s[i].toNat : Int) == 116) = true := by simp [hc]
  have HC := Lib.hid (show (L s)[i]? = some 116 by rw [L_get hi]; exact congrArg some (UInt8.toNat_inj.1 hc))
  clear h hc
  go_enter Tryz.func70, Tryz.ntmps70
  go_wp2_with fail
  go_quiet (fail)
  go_wp2_with fail
  go_quiet (fail)
  go_wp2_with fail
  go_ret2
  exact .inl ⟨[9], i + 1, by omega, by omega, by simp, ⟨rfl, (H.out.drewN _).set1 (i + 1), by with_reducible repeat (first | assumption | apply Kept.drewN | apply Kept.set | exact Kept.refl _ _)⟩, fun key acc K => resc_go HC.out (by decide) (by decide) key acc K⟩

set_option maxRecDepth 100000 in
set_option maxHeartbeats 1000000 in
theorem r_esc_117 (bp : Nat) (s : ByteArray) (i d : Nat) (w : World) (h : RAt w bp s i 0 d) (hs : s.size ≤ big) (hi : i < s.size) (hc : s[i].toNat = 117) :
    Calls Tryz.prog 70 #[.pointer (some ⟨bp, 0, none⟩)] w (REsc bp s w i d) := by
  have HS := Lib.hid hs
  unfold big at hs
  have c0 := h.c0
  have c1 := h.c1
  have f1 := h.f1
  have H := Lib.hid h
  have hi' : (i : Int) < s.size := by omega
  have hne : ((i : Int) == (s.size : Int)) = false := by simp; omega
  have t34 : ((s[i].toNat : Int) == 34) = false := by simp [hc]
  have t92 : ((s[i].toNat : Int) == 92) = false := by simp [hc]
  have t47 : ((s[i].toNat : Int) == 47) = false := by simp [hc]
  have t98 : ((s[i].toNat : Int) == 98) = false := by simp [hc]
  have t102 : ((s[i].toNat : Int) == 102) = false := by simp [hc]
  have t110 : ((s[i].toNat : Int) == 110) = false := by simp [hc]
  have t114 : ((s[i].toNat : Int) == 114) = false := by simp [hc]
  have t116 : ((s[i].toNat : Int) == 116) = false := by simp [hc]
  have t117 : ((s[i].toNat : Int) == 117) = true := by simp [hc]
  have HC := Lib.hid (show (L s)[i]? = some 117 by rw [L_get hi]; exact congrArg some (UInt8.toNat_inj.1 hc))
  clear h hc
  go_enter Tryz.func70, Tryz.ntmps70
  go_wp2_with fail
  go_quiet (fail)
  go_wp2_with fail
  go_quiet (fail)
  go_wp2_with fail
  refine (r_coded bp s (i + 1) d _ (by exact (H.out.drewN _).set1 (i + 1)) (by omega) HS.out).mono ?_
  rintro e w1 (⟨t, j, hij, hjs, htl, ⟨rfl, A1, K1⟩, hR⟩ | ⟨p, hp, ⟨rfl, ⟨d1, A1⟩, K1⟩, hR⟩)
  · have HA := Lib.hid A1
    have HR := Lib.hid hR
    clear A1 hR
    go_wp2_with fail
    go_ret2
    exact .inl ⟨t, j, by omega, hjs, htl, ⟨rfl, HA.out, Kept.trans (by with_reducible repeat (first | assumption | apply Kept.drewN | apply Kept.set | exact Kept.refl _ _)) K1⟩, fun key acc K => (resc_u HC.out key acc K).trans (HR.out key acc K)⟩
  · have HA := Lib.hid A1
    have HR := Lib.hid hR
    clear A1 hR
    go_wp2_with fail
    go_ret2
    exact .inr ⟨p, hp, ⟨rfl, ⟨d1, HA.out⟩, Kept.trans (by with_reducible repeat (first | assumption | apply Kept.drewN | apply Kept.set | exact Kept.refl _ _)) K1⟩, fun key acc K => (resc_u HC.out key acc K).trans (HR.out key acc K)⟩

set_option maxRecDepth 100000 in
set_option maxHeartbeats 1000000 in
theorem r_esc_none (bp : Nat) (s : ByteArray) (i d : Nat) (w : World) (h : RAt w bp s i 0 d) (hs : s.size ≤ big) (hi : i < s.size) (h34 : s[i].toNat ≠ 34) (h92 : s[i].toNat ≠ 92) (h47 : s[i].toNat ≠ 47) (h98 : s[i].toNat ≠ 98) (h102 : s[i].toNat ≠ 102) (h110 : s[i].toNat ≠ 110) (h114 : s[i].toNat ≠ 114) (h116 : s[i].toNat ≠ 116) (h117 : s[i].toNat ≠ 117) :
    Calls Tryz.prog 70 #[.pointer (some ⟨bp, 0, none⟩)] w (REsc bp s w i d) := by
  have HS := Lib.hid hs
  unfold big at hs
  have c0 := h.c0
  have c1 := h.c1
  have f1 := h.f1
  have H := Lib.hid h
  have hi' : (i : Int) < s.size := by omega
  have hne : ((i : Int) == (s.size : Int)) = false := by simp; omega
  have t34 : ((s[i].toNat : Int) == 34) = false := by simp; omega
  have t92 : ((s[i].toNat : Int) == 92) = false := by simp; omega
  have t47 : ((s[i].toNat : Int) == 47) = false := by simp; omega
  have t98 : ((s[i].toNat : Int) == 98) = false := by simp; omega
  have t102 : ((s[i].toNat : Int) == 102) = false := by simp; omega
  have t110 : ((s[i].toNat : Int) == 110) = false := by simp; omega
  have t114 : ((s[i].toNat : Int) == 114) = false := by simp; omega
  have t116 : ((s[i].toNat : Int) == 116) = false := by simp; omega
  have t117 : ((s[i].toNat : Int) == 117) = false := by simp; omega
  have hno : ∀ c, (L s)[i]? = some c → c ≠ 117 ∧ escByte c = none := fun c h => by
    rw [L_get hi] at h; cases h
    have ne : ∀ m : UInt8, s[i].toNat ≠ m.toNat → s[i] ≠ m := fun m h e => h (by rw [e])
    refine ⟨ne 117 h117, ?_⟩
    unfold escByte
    simp [ne 34 h34, ne 92 h92, ne 47 h47, ne 98 h98, ne 102 h102, ne 110 h110, ne 114 h114, ne 116 h116]
  have HNO := Lib.hid hno
  clear h hno h34 h92 h47 h98 h102 h110 h114 h116 h117
  go_enter Tryz.func70, Tryz.ntmps70
  go_wp2_with fail
  go_quiet (fail)
  go_wp2_with fail
  go_quiet (fail)
  go_wp2_with fail
  refine (r_wrong bp s i 0 d 40 _ (by exact H.out.drewN _)).mono ?_
  rintro e w2 ⟨rfl, ⟨d', A2⟩, K2⟩
  have HA := Lib.hid A2
  clear A2
  go_wp2_with fail
  go_ret2
  exact .inr ⟨i, by omega, ⟨rfl, ⟨d', HA.out⟩, Kept.trans (by with_reducible repeat (first | assumption | apply Kept.drewN | apply Kept.set | exact Kept.refl _ _)) K2⟩, fun key acc K => resc_bad HNO.out key acc K⟩

set_option maxRecDepth 100000 in
set_option maxHeartbeats 1000000 in
theorem r_esc_end (bp : Nat) (s : ByteArray) (i d : Nat) (w : World) (h : RAt w bp s i 0 d) (hs : s.size ≤ big) (hi : i = s.size) :
    Calls Tryz.prog 70 #[.pointer (some ⟨bp, 0, none⟩)] w (REsc bp s w i d) := by
  have HS := Lib.hid hs
  unfold big at hs
  have c0 := h.c0
  have c1 := h.c1
  have H := Lib.hid h
  have hne : ((i : Int) == (s.size : Int)) = true := by simp; omega
  have HI := Lib.hid hi
  clear h hi
  go_enter Tryz.func70, Tryz.ntmps70
  go_wp2_with fail
  go_quiet (fail)
  go_wp2_with fail
  refine (r_wrong bp s i 0 d 40 _ (by exact H.out.drewN _)).mono ?_
  rintro e w2 ⟨rfl, ⟨d', A2⟩, K2⟩
  have HA := Lib.hid A2
  clear A2
  go_wp2_with fail
  go_ret2
  exact .inr ⟨i, by rw [HI.out]; exact Nat.le_refl _, ⟨rfl, ⟨d', HA.out⟩, Kept.trans (by with_reducible repeat (first | assumption | apply Kept.drewN | apply Kept.set | exact Kept.refl _ _)) K2⟩, fun key acc K => resc_bad (fun c hc => by rw [L_end (by rw [HI.out]; exact Nat.le_refl _)] at hc; cases hc) key acc K⟩

theorem r_escape (bp : Nat) (s : ByteArray) (i d : Nat) (w : World) (h : RAt w bp s i 0 d) (hs : s.size ≤ big) (hi : i ≤ s.size) :
    Calls Tryz.prog 70 #[.pointer (some ⟨bp, 0, none⟩)] w (REsc bp s w i d) := by
  by_cases hl : i < s.size
  · by_cases h34 : s[i].toNat = 34
    · exact r_esc_34 bp s i d w h hs hl h34
    by_cases h92 : s[i].toNat = 92
    · exact r_esc_92 bp s i d w h hs hl h92
    by_cases h47 : s[i].toNat = 47
    · exact r_esc_47 bp s i d w h hs hl h47
    by_cases h98 : s[i].toNat = 98
    · exact r_esc_98 bp s i d w h hs hl h98
    by_cases h102 : s[i].toNat = 102
    · exact r_esc_102 bp s i d w h hs hl h102
    by_cases h110 : s[i].toNat = 110
    · exact r_esc_110 bp s i d w h hs hl h110
    by_cases h114 : s[i].toNat = 114
    · exact r_esc_114 bp s i d w h hs hl h114
    by_cases h116 : s[i].toNat = 116
    · exact r_esc_116 bp s i d w h hs hl h116
    by_cases h117 : s[i].toNat = 117
    · exact r_esc_117 bp s i d w h hs hl h117
    exact r_esc_none bp s i d w h hs hl h34 h92 h47 h98 h102 h110 h114 h116 h117
  · exact r_esc_end bp s i d w h hs (by omega)

end Jot
end Go.Proofs.YthgcnmdnjfajbaaGreatDoor
