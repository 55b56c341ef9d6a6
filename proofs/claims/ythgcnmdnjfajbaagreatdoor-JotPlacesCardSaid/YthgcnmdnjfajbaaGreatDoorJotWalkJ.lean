/- Walk of package jot: text. Conditions: a parser that stands at a quote; a map of names, or none. -/
import Derived.Test.YthgcnmdnjfajbaaGreatDoorJotWalkI
import Derived.Test.YthgcnmdnjfajbaaGreatDoorJotWalkG
import Derived.Maps.OwnSet
import Derived.Maps.OwnOps
import Derived.Lib.SlBytesRow
import Derived.Lib.BufferRead
import Derived.Lib.AppendStr
import Derived.StillTailTactics
namespace Go.Proofs.YthgcnmdnjfajbaaGreatDoor
open Go.RowKit
namespace Jot
open Go.Maps (Keyed string_keyed)
open Go.WideMaps (keyOf_string_mk)

theorem At.drew {w : World} {bp : Nat} {s : ByteArray} {i d : Nat} (h : At w bp s i d) : At w.drew bp s i d := h

/-- A map that has just these names, or the nil map. -/
def Seen (w : World) (m : Value) (ns : List Bs) : Prop :=
  (m = .map none ∧ ns = []) ∨ ∃ b n D, m = .map (some b) ∧ w.ownsMap (H := Unit) Tryz.prog 9 (plainElem Tryz.prog 3) b n D ∧ n ≤ 4000 ∧ ∀ s : Bs, Maps.has D (.string s) = decide (s ∈ ns)

theorem seenLaw : Keyed Tryz.prog 9 := string_keyed Tryz.underlying9
theorem seenZero (w : World) : (zeroValue 3).run Tryz.prog w = .ok (.int .i64 0) w := by kernel_rfl

theorem conv_own {w : World} {B : Nat} {v : Value} {acc : Bs} (h : Own w B v acc) : (convert 52 9 v).run Tryz.prog w = .ok (.string ⟨acc.toArray⟩) w := by
  have hcells := fun g hg => World.ownsRow.cells (g := g) h hg
  rcases h with ⟨_, ⟨rfl, hn⟩ | ⟨g, cap, cur, rfl, _, hh, hc, hm, hs, ht⟩⟩
  · obtain rfl := List.eq_nil_of_length_eq_zero hn
    exact Lib.run_convert_nil_bytes w _ _ _ 0 Tryz.underlying52 Tryz.underlying5 Tryz.underlying9
  · have hb : Lib.Bytes w g 0 ⟨acc.toArray⟩ := by
      intro i hi
      have hi2 : i < acc.toArray.size := hi
      have hi' : i < acc.length := by simpa using hi2
      have := hcells g rfl i (.int .u8 (acc[i]).toNat) (by simp [bc, hi'])
      rw [Addr.add_lit] at this
      exact this
    exact Lib.run_convert_whole w _ _ _ Tryz.underlying52 Tryz.underlying5 Tryz.underlying9 g 0 ⟨acc.toArray⟩ hb cap

theorem look_nil_run (acc : Bs) (hl : acc.length ≤ maxLen) (w : World) : (Instr.lookup 92 (.map none) (.string ⟨acc.toArray⟩) true).run Tryz.prog w = .ok (.tuple #[.int .i64 0, .bool false]) w :=
  Maps.look_nil true seenLaw Tryz.underlying92 (seenZero w) (keyOf_string_mk Tryz.underlying9 hl)

def TextPost (bp : Nat) (s : ByteArray) (w : World) (i d : Nat) (ns : List Bs) (e : Ending) (w' : World) : Prop :=
  (∃ (acc : Bs) (j : Nat), i < j ∧ (L s)[j]? = some 34 ∧ Went bp s w (.string ⟨acc.toArray⟩) (j + 1) d e w' ∧ acc ∉ ns ∧ acc.length ≤ 16000 ∧ ∀ key k, R (L s) (i + 1) ⟨.text key .plain [], k⟩ = R (L s) j ⟨.text key .plain acc, k⟩) ∨
  (∃ p, p ≤ s.size ∧ Gave bp w 40 p e w' ∧ ∀ key k, R (L s) (i + 1) ⟨.text key .plain [], k⟩ = .bad eForm p) ∨
  (∃ (acc : Bs) (j : Nat), (L s)[j]? = some 34 ∧ Gave bp w 42 j e w' ∧ acc ∈ ns ∧ ∀ key k, R (L s) (i + 1) ⟨.text key .plain [], k⟩ = R (L s) j ⟨.text key .plain acc, k⟩)

set_option maxRecDepth 100000 in
set_option maxHeartbeats 2000000 in
theorem text_any (bp : Nat) (s : ByteArray) (i d : Nat) (m : Value) (ns : List Bs) (w : World) (h : At w bp s i d) (hs : s.size ≤ 4000) (hi : i < s.size) (h34 : s[i].toNat = 34) (hseen : Seen w m ns) (hmb : ∀ b, m = .map (some b) → b ≠ bp) :
    Calls Tryz.prog 23 #[.pointer (some ⟨bp, 0, none⟩), m] w (TextPost bp s w i d ns) := by
  have H := Lib.hid h
  have hW := want_ok bp s i d 34 w h hi hs (by omega)
  have HW := Lib.hid hW
  have hbp := h.lt
  have HS := Lib.hid hseen
  clear h hW h34 hseen
  go_enter Tryz.func23, Tryz.ntmps23
  go_wp2_with fail
  refine (HW.out).mono ?_
  rintro e w1 ⟨rfl, A1, K1⟩
  go_wp2_with fail
  go_loopg [5] (s.size - (i + 1)) (fun g v wr => ∃ (j : Nat) (acc : Bs), g = s.size - j ∧ i + 1 ≤ j ∧ j ≤ s.size ∧ Own wr w.heap.size v acc ∧ acc.length ≤ 4 * j ∧ At wr bp s j d ∧ Kept bp w wr ∧
    (∀ key k, R (L s) (i + 1) ⟨.text key .plain [], k⟩ = R (L s) j ⟨.text key .plain acc, k⟩))
  case atStart => exact ⟨i + 1, [], rfl, Nat.le_refl _, by omega, World.ownsRow_nil _ _ _ _, by simp, A1, K1, fun _ _ => rfl⟩
  case round =>
    obtain ⟨j, acc, hg, hij, hjs, hO, hacc, hA, hK, hR⟩ := hrel
    have HG := Lib.hid hg
    have HO := Lib.hid hO
    have HA := Lib.hid hA
    have HR := Lib.hid hR
    have c0 := hA.c0
    have c1 := hA.c1
    have f1 := hA.f1
    clear hg hO hA hR
    by_cases hj : j < s.size
    · by_cases e34 : s[j].toNat = 34
      · have b1 : ((s[j].toNat : Int) == 34) = true := by simp [e34]
        have hO2 : ∀ n, Own ((wr.drewN n).setCell ⟨bp, 1, none⟩ (.int .i64 ((j : Int) + 1))) w.heap.size u5 acc := fun n => HO.out.keptK (((Kept.refl bp wr).drewN n).set 1 _) hbp
        have hconv := fun n => conv_own (w := wr.drewN n) HO.out
        have hconv2 := fun n => conv_own (hO2 n)
        clear hO2
        rcases HS.out with ⟨rfl, rfl⟩ | ⟨b, n, D, rfl, hown, hn, hhas⟩
        · have hlook := fun n => look_nil_run acc (by unfold maxLen; omega) (wr.drewN n)
          go_wp2_with fail
          refine (here_some bp s j d _ (by exact HA.out) hj).mono ?_
          rintro e w2 ⟨rfl, n1, rfl⟩
          go_wp2_with fail
          go_ret
          exact .inl ⟨acc, j, by omega, by rw [L_get hj]; exact congrArg some (UInt8.toNat_inj.1 e34), ⟨rfl, (HA.out.drewN n1).set1 (j + 1), by with_reducible repeat (first | assumption | apply Kept.drewN | apply Kept.set | exact Kept.refl _ _)⟩, by simp, by omega, HR.out⟩
        · have hbb : b ≠ bp := hmb b rfl
          have hblt : b < w.heap.size := by obtain ⟨es, cl, hb, _⟩ := hown; exact (Array.getElem?_eq_some_iff.1 hb).1
          have hown2 : wr.ownsMap (H := Unit) Tryz.prog 9 (plainElem Tryz.prog 3) b n D := by
            obtain ⟨es, cl, hb, hr⟩ := hown
            exact ⟨es, cl, (hK.block b hblt hbb).trans hb, hr⟩
          have HOWN := Lib.hid hown2
          have HHAS := Lib.hid hhas
          clear hown hown2 hhas
          by_cases hin : acc ∈ ns
          · have ht : Maps.has D (.string acc) = true := by rw [HHAS.out]; simp [hin]
            have HIN := Lib.hid hin
            clear hin
            go_wp2_with fail
            refine (here_some bp s j d _ (by exact HA.out) hj).mono ?_
            rintro e w2 ⟨rfl, n1, rfl⟩
            go_wp2_with (at_lookup; refine wpList_lookup_own_ok_int _ rfl _ _ 92 rfl 9 3 .i64 seenLaw Tryz.underlying92 Tryz.underlying3 (seenZero _) b n D rfl (by exact HOWN.out) _ _ rfl (keyOf_string_mk Tryz.underlying9 (by show acc.length ≤ _; unfold maxLen; omega)) ?_; intro c hat hwc)
            refine (fail_any bp s j d 42 _ (by exact HA.out)).mono ?_
            rintro e w3 ⟨rfl, rfl⟩
            go_wp2_with fail
            exact ⟨rfl, .inr (.inr ⟨acc, j, by rw [L_get hj]; exact congrArg some (UInt8.toNat_inj.1 e34), ⟨rfl, by with_reducible repeat (first | assumption | apply Kept.drewN | apply Kept.set | exact Kept.refl _ _)⟩, HIN.out, HR.out⟩)⟩
          · have ht : Maps.has D (.string acc) = false := by rw [HHAS.out]; simp [hin]
            have HIN := Lib.hid hin
            clear hin
            go_wp2_with fail
            refine (here_some bp s j d _ (by exact HA.out) hj).mono ?_
            rintro e w2 ⟨rfl, n1, rfl⟩
            go_wp2_with (at_lookup; refine wpList_lookup_own_ok_int _ rfl _ _ 92 rfl 9 3 .i64 seenLaw Tryz.underlying92 Tryz.underlying3 (seenZero _) b n D rfl (by exact HOWN.out) _ _ rfl (keyOf_string_mk Tryz.underlying9 (by show acc.length ≤ _; unfold maxLen; omega)) ?_; intro c hat hwc)
            go_ret
            exact .inl ⟨acc, j, by omega, by rw [L_get hj]; exact congrArg some (UInt8.toNat_inj.1 e34), ⟨rfl, (HA.out.drewN n1).set1 (j + 1), by with_reducible repeat (first | assumption | apply Kept.drewN | apply Kept.set | exact Kept.refl _ _)⟩, HIN.out, by omega, HR.out⟩
      · have b1 : ((s[j].toNat : Int) == 34) = false := by simp; omega
        have n34 : s[j] ≠ 34 := fun e => e34 (by rw [e]; rfl)
        by_cases e92 : s[j].toNat = 92
        · have b2 : ((s[j].toNat : Int) == 92) = true := by simp [e92]
          have h92 : (L s)[j]? = some 92 := by rw [L_get hj]; exact congrArg some (UInt8.toNat_inj.1 e92)
          have HC := Lib.hid (fun n1 => escaped_any w.heap.size bp s j d u5 acc (wr.drewN n1) HA.out hs hj h92 HO.out hbp (by omega) hK.size)
          clear h92 n34
          go_wp2_with fail
          refine (here_some bp s j d _ (by exact HA.out) hj).mono ?_
          rintro e w2 ⟨rfl, n1, rfl⟩
          go_wp2_with fail
          refine (HC.out n1).mono ?_
          rintro e w3 (⟨v', acc', j', hjj, hjs', rfl, A3, O3, K3, hl3, hR3⟩ | ⟨p, hp, ⟨rfl, K3⟩, hR3⟩)
          · have HO3 := Lib.hid O3
            have HA3 := Lib.hid A3
            have HR3 := Lib.hid hR3
            clear O3 A3 hR3
            go_wp2_with fail
            go_roundg (s.size - j')
            case measure => rw [HG.out]; omega
            case rel =>
              refine ⟨j', acc', rfl, by omega, hjs', HO3.out, by omega, HA3.out, ?_, fun key k => (HR.out key k).trans (HR3.out key k)⟩
              exact KeptB.toK ((hK.toB (Nat.le_refl _)).trans (KeptB.trans ((KeptB.refl _ _ _).drewN n1) K3))
          · have HR3 := Lib.hid hR3
            clear hR3
            go_wp2_with fail
            exact ⟨rfl, .inr (.inl ⟨p, hp, ⟨rfl, hK.trans (((Kept.refl bp wr).drewN n1).trans K3)⟩, fun key k => (HR.out key k).trans (HR3.out key k)⟩)⟩
        · have b2 : ((s[j].toNat : Int) == 92) = false := by simp; omega
          have n92 : s[j] ≠ 92 := fun e => e92 (by rw [e]; rfl)
          by_cases e32 : s[j].toNat < 32
          · have b3 : (s[j].toNat : Int) < 32 := by omega
            have HB := Lib.hid (fun key k => R_bad (l := L s) (i := j) (s := ⟨.text key .plain acc, k⟩) (e := eForm) (L_get hj) (by simp [δ, dText, n34, n92, UInt8.lt_iff_toNat_lt, e32]))
            clear n34 n92
            go_wp2_with fail
            refine (here_some bp s j d _ (by exact HA.out) hj).mono ?_
            rintro e w2 ⟨rfl, n1, rfl⟩
            go_wp2_with fail
            refine (fail_any bp s j d 40 _ (by exact HA.out)).mono ?_
            rintro e w3 ⟨rfl, rfl⟩
            go_wp2_with fail
            exact ⟨rfl, .inr (.inl ⟨j, hjs, ⟨rfl, by with_reducible repeat (first | assumption | apply Kept.drewN | apply Kept.set | exact Kept.refl _ _)⟩, fun key k => (HR.out key k).trans (HB.out key k)⟩)⟩
          · have b3 : ¬ (s[j].toNat : Int) < 32 := by omega
            have HP := Lib.hid (show Plainly s[j] from ⟨n34, n92, by omega⟩)
            clear n34 n92
            go_wp2_with fail
            refine (here_some bp s j d _ (by exact HA.out) hj).mono ?_
            rintro e w2 ⟨rfl, n1, rfl⟩
            go_wp2_with fail
            refine (letter_any bp s j d _ (by exact HA.out) hj hs HP.out).mono ?_
            rintro e w3 (⟨j', lo, hi', hjj, hjs', ⟨rfl, A3, K3⟩, hL⟩ | ⟨p, hp, ⟨rfl, K3⟩, hR3⟩)
            · have HA3 := Lib.hid A3
              have HL := Lib.hid hL
              have c30 := A3.c0
              have c31 := A3.c1
              clear A3 hL
              have g1 : (j : Int) ≤ (j' : Int) := by omega
              have g2 : (j' : Int) ≤ (s.size : Int) := by omega
              go_wp2_with fail
              go_still_tail 11, (by kernel_rfl)
              change wpList _ _ _ _ _ w3.drew
              have K13 : Kept bp wr w3 := Kept.trans (by with_reducible repeat (first | assumption | apply Kept.drewN | apply Kept.set | exact Kept.refl _ _)) K3
              have hO3 : Own w3.drew w.heap.size u5 acc := HO.out.keptK K13.drew hbp
              have hsz : w.heap.size ≤ w3.heap.size := Nat.le_trans hK.size K13.size
              have hsx : (s.extract j j').size = j' - j := by simp [ByteArray.size_extract]; omega
              have HSX := Lib.hid hsx
              have HO3 := Lib.hid hO3
              obtain ⟨i0, hi0, hz0, hz1, hz2⟩ := info_parts infoByte
              clear hsx hO3
              go_wp2_with (at_builtin; refine Lib.wpList_append_own_string _ rfl _ _ 52 9 rfl w.heap.size 5 i0 Tryz.underlying52 Tryz.underlying9 hi0 hz0 hz1 hz2 _ _ _ rfl HO3.out _ rfl ?c3 ?c4 ?c5 ?_)
              case c3 => rw [HSX.out]; unfold maxLen; omega
              case c4 => rw [HSX.out]; omega
              case c5 => exact hsz
              intro v' w4 hown' hgrow _
              have HW4 := Lib.hid hown'
              have HG4 := Lib.hid hgrow
              clear hown' hgrow
              go_wp2_with fail
              have hlt : ∀ k, u5.ownBlock = some k → w.heap.size ≤ k := fun k hk => (HO.out.lt k hk).1
              have hxs : Lib.strCells (s.extract j j') = bc (sl (L s) j j') := by
                unfold Lib.strCells bc sl; rw [Lib.extract_data]
              go_roundg (s.size - j')
              case measure => rw [HG.out]; omega
              case rel =>
                refine ⟨j', acc ++ sl (L s) j j', rfl, by omega, hjs', ?_, ?_, HA3.out.drew.grown HG4.out (fun k hk => ?_), ?_, fun key k => (HR.out key k).trans (HL.out key acc k)⟩
                · have := HW4.out
                  rw [hxs] at this
                  unfold Own
                  rw [bc_append, List.length_append, sl_len _ _ _ (by rw [L_len]; exact hjs') (by omega)]
                  exact this
                · rw [List.length_append, sl_len _ _ _ (by rw [L_len]; exact hjs') (by omega)]; omega
                · have := hlt k hk; omega
                · refine KeptB.toK ((hK.toB (Nat.le_refl _)).trans ((K13.toB hK.size).trans (KeptB.trans (KeptB.refl _ _ _).drew (KeptB.grown HG4.out hsz hlt))))
            · have HR3 := Lib.hid hR3
              clear hR3
              go_wp2_with fail
              exact ⟨rfl, .inr (.inl ⟨p, hp, ⟨rfl, hK.trans (Kept.trans (by with_reducible repeat (first | assumption | apply Kept.drewN | apply Kept.set | exact Kept.refl _ _)) K3)⟩, fun key k => (HR.out key k).trans (HR3.out key acc k)⟩)⟩
    · have hje : j = s.size := by omega
      have hA' : At wr bp s s.size d := by rw [← hje]; exact HA.out
      have HA' := Lib.hid hA'
      have HE := Lib.hid (fun key k => R_end (l := L s) (i := j) (by rw [L_len]; omega) ⟨.text key .plain acc, k⟩)
      have HJE := Lib.hid hje
      clear hje hA'
      go_wp2_with fail
      refine (here_end bp s d _ (by exact HA'.out)).mono ?_
      rintro e w2 ⟨rfl, n2, rfl⟩
      go_wp2_with fail
      refine ⟨rfl, .inr (.inl ⟨s.size, Nat.le_refl _, ⟨rfl, by with_reducible repeat (first | assumption | apply Kept.drewN | apply Kept.set | exact Kept.refl _ _)⟩, fun key k => (HR.out key k).trans ((HE.out key k).trans ?_)⟩)⟩
      rw [HJE.out]
      rfl

end Jot
end Go.Proofs.YthgcnmdnjfajbaaGreatDoor
