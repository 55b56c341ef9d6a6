/- Walk over the reference's reader: coded. Conditions: a reader that stands behind the letter u of an escape. -/
import Derived.Test.YthgcnmdnjfajbaaGreatDoorRefH
namespace Go.Proofs.YthgcnmdnjfajbaaGreatDoor
open Go.RowKit
namespace Jot

/-- coded: the letter's bytes, or what is wrong. -/
def RCoded (bp : Nat) (s : ByteArray) (w : World) (i d : Nat) (e : Ending) (w' : World) : Prop :=
  (∃ (t : Bs) (j : Nat), i < j ∧ j ≤ s.size ∧ t.length ≤ 4 ∧ RWent bp s w (.tuple #[str t, .bool true]) j d e w' ∧ ∀ key acc K, R (L s) i ⟨.text key (.hex 0 0) acc, K⟩ = R (L s) j ⟨.text key .plain (acc ++ t), K⟩) ∨
  (∃ p, p ≤ s.size ∧ RGave bp s w (.tuple #[.string ⟨#[]⟩, .bool false]) 40 p e w' ∧ ∀ key acc K, R (L s) i ⟨.text key (.hex 0 0) acc, K⟩ = .bad eForm p)

theorem RWent.quit {bp : Nat} {s : ByteArray} {w w1 w2 : World} {v : Value} {j d : Nat} {e : Ending} (K : Kept bp w w1) (h : RWent bp s w1 v j d e w2) : RWent bp s w v j d e w2 := ⟨h.1, h.2.1, K.trans h.2.2⟩

set_option maxRecDepth 100000 in
set_option maxHeartbeats 2000000 in
theorem r_coded (bp : Nat) (s : ByteArray) (i d : Nat) (w : World) (h : RAt w bp s i 0 d) (hi : i ≤ s.size) (hs : s.size ≤ big) :
    Calls Tryz.prog 89 #[.pointer (some ⟨bp, 0, none⟩)] w (RCoded bp s w i d) := by
  have HS := Lib.hid hs
  have HF := Lib.hid (r_four_false bp s i d 0 w h hi hs)
  have hbp := h.lt
  clear h hs
  go_enter Tryz.func89, Tryz.ntmps89
  go_wp2_with fail
  refine (HF.out).mono ?_
  rintro e w1 (⟨n, dg, hlt, h4, hd, _, ⟨rfl, A1, K1⟩, hR⟩ | ⟨p, hp, ⟨rfl, ⟨d1, A1⟩, K1⟩, hR⟩)
  · have HX : Hid (HexAt (L s) i (i + 3) 3 n) := fun key acc K => hR key acc K
    have HD := Lib.hid hd
    have HA := Lib.hid A1
    obtain ⟨N, hN⟩ : ∃ N, N = 16 * n + dg := ⟨_, rfl⟩
    have HN := Lib.hid hN
    have hNb : N < 65536 := by omega
    rw [← hN]
    clear hR hd A1 hN hlt HF
    by_cases hs1 : N < 55296
    · have t1 : ((N : Int) < 55296) := by omega
      have t2 : decide ((N : Int) < 55296) = true := by simp; omega
      go_wp2_with fail
      refine (r_bytes N (by omega) _).mono ?_
      rintro e w2 ⟨rfl, K2⟩
      go_wp2_with fail
      go_ret2
      refine .inl ⟨utf8 N, i + 4, by omega, h4, utf8_len N, ⟨rfl, ?_, K1.trans ?_⟩, fun key acc K => ?_⟩
      · exact HA.out.kept (KeptB.toK (bp := w1.heap.size) K2) (by have := HA.out.lt; omega)
      · exact KeptB.toK K2.toB
      · obtain ⟨c, hc1, hc2, _⟩ := HD.out
        rw [HX.out.last hc1 hc2 (by have := HN.out; omega), HN.out]
    · by_cases hs2 : 56319 < N
      · have t1 : ¬ ((N : Int) < 55296) := by omega
        have t2 : decide ((N : Int) < 55296) = false := by simp; omega
        have t3 : ((56319 : Int) < (N : Int)) := by omega
        go_wp2_with fail
        refine (r_bytes N (by omega) _).mono ?_
        rintro e w2 ⟨rfl, K2⟩
        go_wp2_with fail
        go_ret2
        refine .inl ⟨utf8 N, i + 4, by omega, h4, utf8_len N, ⟨rfl, ?_, K1.trans ?_⟩, fun key acc K => ?_⟩
        · exact HA.out.kept (KeptB.toK (bp := w1.heap.size) K2) (by have := HA.out.lt; omega)
        · exact KeptB.toK K2.toB
        · obtain ⟨c, hc1, hc2, _⟩ := HD.out
          rw [HX.out.last hc1 hc2 (by have := HN.out; omega), HN.out]
      · have t1 : ¬ ((N : Int) < 55296) := by omega
        have t3 : ¬ ((56319 : Int) < (N : Int)) := by omega
        have HU : Hid (∀ key acc k, R (L s) i ⟨.text key (.hex 0 0) acc, k⟩ = R (L s) (i + 4) ⟨.text key (.sur1 N) acc, k⟩) := fun key acc k => by
          obtain ⟨c, hc1, hc2, _⟩ := HD.out
          rw [HX.out.upper hc1 hc2 (by have := HN.out; omega), HN.out]
        clear HX HD HN
        go_wp2_with fail
        refine (r_takes bp s (i + 4) d 92 _ (by exact HA.out) HS.out).mono ?_
        rintro e w2 (⟨h92, rfl, A2, K2⟩ | ⟨h92, rfl, ⟨d2, A2⟩, K2⟩)
        · have H92 := Lib.hid h92
          have HA2 := Lib.hid A2
          clear h92 A2
          go_wp2_with fail
          refine (r_takes bp s (i + 4 + 1) d 117 _ (by exact HA2.out) HS.out).mono ?_
          rintro e w3 (⟨h117, rfl, A3, K3⟩ | ⟨h117, rfl, ⟨d3, A3⟩, K3⟩)
          · have hlen : i + 4 + 2 ≤ s.size := by have := (List.getElem?_eq_some_iff.1 h117).1; rw [L_len] at this; omega
            have HL : Hid (LowAt (L s) i N (i + 4 + 2) 0 0) := LowAt.start HU.out H92.out h117
            have HA3 := Lib.hid A3
            clear h117 A3 HU H92
            go_wp2_with fail
            refine (r_four_true bp s (i + 4 + 2) d N _ (by exact HA3.out) hlen HS.out).mono ?_
            rintro e w4 (⟨m, dg2, hlt2, h42, hd2, hlo, ⟨rfl, A4, K4⟩, hR4⟩ | ⟨p, hp, ⟨rfl, ⟨d4, A4⟩, K4⟩, hR4⟩)
            · have HX4 : Hid (LowAt (L s) i N (i + 4 + 2 + 3) 3 m) := fun key acc K => by rw [HL.out key acc K]; exact hR4 key acc K
              have HD2 := Lib.hid hd2
              have HA4 := Lib.hid A4
              have hlo2 := hlo rfl
              obtain ⟨M, hM⟩ : ∃ M, M = 16 * m + dg2 := ⟨_, rfl⟩
              have HM := Lib.hid hM
              have hMb : 56320 ≤ M ∧ M < 57344 := by omega
              rw [← hM]
              clear hR4 hd2 A4 hM hlt2 hlo hlo2 HL
              obtain ⟨hM1, hM2⟩ := hMb
              go_wp2_with fail
              rw [show ((65536 : Int) + 1024 * ((N : Int) - 55296) + (M : Int) - 56320) = ((65536 + 1024 * (N - 0xd800) + (M - 0xdc00) : Nat) : Int) from by omega]
              refine (r_bytes (65536 + 1024 * (N - 0xd800) + (M - 0xdc00)) (by omega) _).mono ?_
              rintro e w5 ⟨rfl, K5⟩
              go_wp2_with fail
              go_ret2
              refine .inl ⟨utf8 (65536 + 1024 * (N - 0xd800) + (M - 0xdc00)), i + 4 + 2 + 4, by omega, h42, utf8_len _, ⟨rfl, ?_, K1.trans (K2.trans (K3.trans (K4.trans ?_)))⟩, fun key acc K => ?_⟩
              · exact HA4.out.kept (KeptB.toK (bp := w4.heap.size) K5) (by have := HA4.out.lt; omega)
              · exact KeptB.toK K5.toB
              · obtain ⟨c, hc1, hc2, _⟩ := HD2.out
                rw [HX4.out.last hc1 hc2, HM.out]
            · have HA4 := Lib.hid A4
              have HR4 : Hid (∀ key acc K, R (L s) i ⟨.text key (.hex 0 0) acc, K⟩ = .bad eForm p) := fun key acc K => by rw [HL.out key acc K]; exact hR4 key acc K
              clear hR4 A4 HL
              go_wp2_with fail
              go_ret2
              exact .inr ⟨p, hp, ⟨rfl, ⟨d4, HA4.out⟩, K1.trans (K2.trans (K3.trans K4))⟩, HR4.out⟩
          · have H117 := Lib.hid h117
            have HA3 := Lib.hid A3
            have hlen : i + 4 + 1 ≤ s.size := by have := (List.getElem?_eq_some_iff.1 H92.out).1; rw [L_len] at this; omega
            clear h117 A3
            go_wp2_with fail
            go_ret2
            exact .inr ⟨i + 4 + 1, hlen, ⟨rfl, ⟨d3, HA3.out⟩, K1.trans (K2.trans K3)⟩, fun key acc K => low_fault2 HU.out H92.out H117.out key acc K⟩
        · have H92 := Lib.hid h92
          have HA2 := Lib.hid A2
          clear h92 A2
          go_wp2_with fail
          go_ret2
          exact .inr ⟨i + 4, h4, ⟨rfl, ⟨d2, HA2.out⟩, K1.trans K2⟩, fun key acc K => low_fault1 HU.out H92.out key acc K⟩
  · have HA := Lib.hid A1
    have HR := Lib.hid hR
    clear A1 hR HF
    go_wp2_with fail
    go_ret2
    exact .inr ⟨p, hp, ⟨rfl, ⟨d1, HA.out⟩, K1⟩, fun key acc K => HR.out key acc K⟩

end Jot
end Go.Proofs.YthgcnmdnjfajbaaGreatDoor
