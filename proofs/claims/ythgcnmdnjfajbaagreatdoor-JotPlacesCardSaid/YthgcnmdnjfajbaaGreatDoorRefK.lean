/- Walk over the reference's reader: text. Conditions: a reader that stands in its text. -/
import Derived.Test.YthgcnmdnjfajbaaGreatDoorRefJ
namespace Go.Proofs.YthgcnmdnjfajbaaGreatDoor
open Go.RowKit
namespace Jot

/-- text: the bytes that it says, or what is wrong. -/
def RText (bp : Nat) (s : ByteArray) (w : World) (i d : Nat) (e : Ending) (w' : World) : Prop :=
  (∃ (acc : Bs) (j : Nat), i < j ∧ (L s)[i]? = some 34 ∧ (L s)[j]? = some 34 ∧ RWent bp s w (.tuple #[str acc, .bool true]) (j + 1) d e w' ∧ acc.length ≤ 4 * j ∧ ∀ key K, R (L s) (i + 1) ⟨.text key .plain [], K⟩ = R (L s) j ⟨.text key .plain acc, K⟩) ∨
  ((L s)[i]? ≠ some 34 ∧ RGave bp s w (.tuple #[.string ⟨#[]⟩, .bool false]) 40 i e w') ∨
  (∃ p, p ≤ s.size ∧ (L s)[i]? = some 34 ∧ RGave bp s w (.tuple #[.string ⟨#[]⟩, .bool false]) 40 p e w' ∧ ∀ key K, R (L s) (i + 1) ⟨.text key .plain [], K⟩ = .bad eForm p)

theorem RAt.keptB {w w' : World} {bp B : Nat} {s : ByteArray} {i e d : Nat} (h : RAt w bp s i e d) (k : KeptB B B w w') (hn : bp < B) : RAt w' bp s i e d :=
  (k.block bp hn (by omega)).trans h

set_option maxRecDepth 100000 in
set_option maxHeartbeats 4000000 in
theorem r_text (bp : Nat) (s : ByteArray) (i d : Nat) (w : World) (h : RAt w bp s i 0 d) (hs : s.size ≤ big) :
    Calls Tryz.prog 51 #[.pointer (some ⟨bp, 0, none⟩)] w (RText bp s w i d) := by
  have HS := Lib.hid hs
  have HT := Lib.hid (r_takes bp s i d 34 w h hs)
  have hbp := h.lt
  obtain ⟨i0, hi0, hz0, hz1, hz2⟩ := info_parts infoByte
  have HI0 := Lib.hid hi0
  unfold big at hs
  clear h hi0
  go_enter Tryz.func51, Tryz.ntmps51
  go_wp2_with fail
  refine (HT.out).mono ?_
  rintro e w1 (⟨hq, rfl, A1, K1⟩ | ⟨hq, rfl, ⟨d1, A1⟩, K1⟩)
  · have HQ := Lib.hid hq
    have HA1 := Lib.hid A1
    have hilt : i < s.size := by have := (List.getElem?_eq_some_iff.1 hq).1; rwa [L_len] at this
    clear hq A1 HT
    go_wp2_with fail
    go_loopg [5] (s.size - (i + 1)) (fun g v wr => ∃ (j : Nat) (acc : Bs), g = s.size - j ∧ i + 1 ≤ j ∧ j ≤ s.size ∧ Own wr w.heap.size v acc ∧ acc.length ≤ 4 * j ∧ RAt wr bp s j 0 d ∧ Kept bp w wr ∧
      (∀ key k, R (L s) (i + 1) ⟨.text key .plain [], k⟩ = R (L s) j ⟨.text key .plain acc, k⟩))
    case atStart => exact ⟨i + 1, [], rfl, Nat.le_refl _, by omega, World.ownsRow_nil _ _ _ _, by simp, HA1.out, K1, fun _ _ => rfl⟩
    case round =>
      obtain ⟨j, acc, hg, hij, hjs, hO, hacc, hA, hK, hR⟩ := hrel
      have HG := Lib.hid hg
      have HO := Lib.hid hO
      have HA := Lib.hid hA
      have HR := Lib.hid hR
      have c0 := hA.c0
      have c1 := hA.c1
      have f1 := hA.f1
      have hI1 := r_is bp s j 0 d 34 wr hA
      have hszr := hK.size
      clear hg hO hR
      by_cases h34 : (L s)[j]? = some 34
      · rw [show isAt s j 34 = true from decide_eq_true h34] at hI1
        have HI1 := Lib.hid hI1
        have H34 := Lib.hid h34
        have hO2 : ∀ n, Own ((wr.drewN n).setCell ⟨bp, 1, none⟩ (.int .i64 ((j : Int) + 1))) w.heap.size u5 acc := fun n => HO.out.keptK (((Kept.refl bp wr).drewN n).set 1 _) hbp
        have hconv2 := fun n => conv_own (hO2 n)
        clear hO2 hA hI1 h34
        go_wp2_with fail
        refine (HI1.out).mono ?_
        rintro e w2 ⟨rfl, n1, rfl⟩
        go_wp2_with fail
        go_ret2
        exact .inl ⟨acc, j, by omega, HQ.out, H34.out, ⟨rfl, (HA.out.drewN n1).set1 (j + 1), by with_reducible repeat (first | assumption | apply Kept.drewN | apply Kept.set | exact Kept.refl _ _)⟩, hacc, HR.out⟩
      · rw [show isAt s j 34 = false from decide_eq_false h34] at hI1
        have HI1 := Lib.hid hI1
        have hI2 := fun n => r_is bp s j 0 d 92 (wr.drewN n) (hA.drewN n)
        clear hI1 hA
        by_cases h92 : (L s)[j]? = some 92
        · simp only [show isAt s j 92 = true from decide_eq_true h92] at hI2
          have HI2 := Lib.hid hI2
          have H92 := Lib.hid h92
          have hjlt : j < s.size := by have := (List.getElem?_eq_some_iff.1 h92).1; rwa [L_len] at this
          clear hI2 h92 h34
          go_wp2_with fail
          refine (HI1.out).mono ?_
          rintro e w2 ⟨rfl, n1, rfl⟩
          go_wp2_with fail
          refine (HI2.out n1).mono ?_
          rintro e w3 ⟨rfl, n2, rfl⟩
          go_wp2_with fail
          refine (r_escape bp s (j + 1) d _ (by exact ((HA.out.drewN n1).drewN n2).set1 (j + 1)) HS.out (by omega)).mono ?_
          rintro e w4 (⟨t, j', hjj, hjs', htl, ⟨rfl, A4, K4⟩, hR4⟩ | ⟨p, hp, ⟨rfl, ⟨d4, A4⟩, K4⟩, hR4⟩)
          · have HA4 := Lib.hid A4
            have HR4 : Hid (∀ key k, R (L s) (i + 1) ⟨.text key .plain [], k⟩ = R (L s) j' ⟨.text key .plain (acc ++ t), k⟩) := fun key k => by
              rw [HR.out key k, R_go H92.out (s' := ⟨.text key .esc acc, k⟩) (by simp [δ, dText])]
              exact hR4 key acc k
            have K14 : Hid (Kept bp wr w4) := Kept.trans (by with_reducible repeat (first | assumption | apply Kept.drewN | apply Kept.set | exact Kept.refl _ _)) K4
            have HO4 := Lib.hid (HO.out.keptK K14.out hbp)
            have hsz4 := K14.out.size
            have hltv := fun k hk => HO.out.lt k hk
            clear A4 hR4 K4
            unfold str
            go_wp2_with (at_builtin; refine Lib.wpList_append_own_string _ rfl _ _ 52 9 rfl w.heap.size 5 i0 Tryz.underlying52 Tryz.underlying9 HI0.out hz0 hz1 hz2 _ _ _ rfl HO4.out _ rfl ?c3 ?c4 ?c5 ?_)
            case c3 => rw [show (ByteArray.mk t.toArray).size = t.length from by simp [ByteArray.size]]; unfold maxLen; omega
            case c4 => rw [show (ByteArray.mk t.toArray).size = t.length from by simp [ByteArray.size]]; omega
            case c5 => omega
            intro v' w5 hown' hgrow _
            have HW5 := Lib.hid hown'
            have HG5 := Lib.hid hgrow
            clear hown' hgrow
            go_wp2_with fail
            go_roundg (s.size - j')
            case measure => rw [HG.out]; omega
            case rel =>
              refine ⟨j', acc ++ t, rfl, by omega, hjs', ?_, by rw [List.length_append]; omega, HA4.out.grown HG5.out (fun k hk => ?_), ?_, HR4.out⟩
              · have := HW5.out
                rw [show Lib.strCells ⟨t.toArray⟩ = bc t from by simp [Lib.strCells, bc]] at this
                unfold Own
                rw [bc_append, List.length_append]
                exact this
              · have := (hltv k hk).1; omega
              · exact KeptB.toK ((hK.toB (Nat.le_refl _)).trans ((K14.out.toB hszr).trans (KeptB.grown HG5.out (by omega) (fun k hk => (hltv k hk).1))))
          · have HA4 := Lib.hid A4
            have HR4 : Hid (∀ key k, R (L s) (i + 1) ⟨.text key .plain [], k⟩ = .bad eForm p) := fun key k => by
              rw [HR.out key k, R_go H92.out (s' := ⟨.text key .esc acc, k⟩) (by simp [δ, dText])]
              exact hR4 key acc k
            clear A4 hR4
            go_wp2_with fail
            go_ret2
            exact .inr (.inr ⟨p, hp, HQ.out, ⟨rfl, ⟨d4, HA4.out⟩, hK.trans (Kept.trans (by with_reducible repeat (first | assumption | apply Kept.drewN | apply Kept.set | exact Kept.refl _ _)) K4)⟩, HR4.out⟩)
        · simp only [show isAt s j 92 = false from decide_eq_false h92] at hI2
          have HI2 := Lib.hid hI2
          clear hI2
          by_cases hj : j < s.size
          · have hj' : (j : Int) < s.size := by omega
            have hne : ((j : Int) == (s.size : Int)) = false := by simp; omega
            have n34 : s[j] ≠ 34 := fun e => h34 (by rw [L_get hj, e])
            have n92 : s[j] ≠ 92 := fun e => h92 (by rw [L_get hj, e])
            clear h34 h92
            by_cases e32 : s[j].toNat < 32
            · have b3 : (s[j].toNat : Int) < 32 := by omega
              have HB := Lib.hid (fun key k => R_bad (l := L s) (i := j) (s := ⟨.text key .plain acc, k⟩) (e := eForm) (L_get hj) (by simp [δ, dText, n34, n92, UInt8.lt_iff_toNat_lt, e32]))
              clear n34 n92
              go_wp2_with fail
              refine (HI1.out).mono ?_
              rintro e w2 ⟨rfl, n1, rfl⟩
              go_wp2_with fail
              refine (HI2.out n1).mono ?_
              rintro e w3 ⟨rfl, n2, rfl⟩
              go_wp2_with fail
              go_quiet (fail)
              go_wp2_with fail
              refine (r_wrong bp s j 0 d 40 _ (by exact HA.out)).mono ?_
              rintro e w4 ⟨rfl, ⟨d4, A4⟩, K4⟩
              have HA4 := Lib.hid A4
              clear A4
              go_wp2_with fail
              go_ret2
              exact .inr (.inr ⟨j, hjs, HQ.out, ⟨rfl, ⟨d4, HA4.out⟩, hK.trans (Kept.trans (by with_reducible repeat (first | assumption | apply Kept.drewN | apply Kept.set | exact Kept.refl _ _)) K4)⟩, fun key k => (HR.out key k).trans (HB.out key k)⟩)
            · have b3 : ¬ (s[j].toNat : Int) < 32 := by omega
              have hsays := let_says hj ⟨n34, n92, by omega⟩
              have hletw : ∀ w', Calls Tryz.prog 71 #[.string s, .int .i64 j] w' (RLet s j w') := fun w' => r_letter s j w' hj HS.out
              unfold LetSays at hsays
              unfold RLet at hletw
              clear n34 n92
              generalize (letFirst (L s) j).1 = to at hsays hletw
              generalize (letFirst (L s) j).2 = ok at hsays hletw
              rcases hsays with ⟨rfl, hjt, hts, lo, hi', hL⟩ | ⟨rfl, hts, hB⟩
              · have HLW := Lib.hid hletw
                have HL := Lib.hid hL
                clear hletw hL
                have g1 : (j : Int) ≤ (to : Int) := by omega
                have g2 : (to : Int) ≤ (s.size : Int) := by omega
                have hsx : (s.extract j to).size = to - j := by simp [ByteArray.size_extract]; omega
                have HSX := Lib.hid hsx
                clear hsx
                go_wp2_with fail
                refine (HI1.out).mono ?_
                rintro e w2 ⟨rfl, n1, rfl⟩
                go_wp2_with fail
                refine (HI2.out n1).mono ?_
                rintro e w3 ⟨rfl, n2, rfl⟩
                go_wp2_with fail
                go_quiet (fail)
                go_wp2_with fail
                have HAq := Lib.hid ((HA.out.drewN (n1 + n2)).drewN nq)
                have HKq := Lib.hid (((Kept.refl bp wr).drewN (n1 + n2)).drewN nq)
                clear c0 c1 f1
                generalize (wr.drewN (n1 + n2)).drewN nq = wq at *
                have c0 := HAq.out.c0
                have c1 := HAq.out.c1
                go_quiet ((go_at_call 71; exact (HLW.out _).mono (fun _ _ h => ⟨h.1, _, h.2⟩)))
                go_wp2_with fail
                have HAz := Lib.hid (HAq.out.drewN nq)
                have HKz := Lib.hid (HKq.out.drewN nq)
                clear c0 c1
                generalize wq.drewN nq = wz at *
                have c0 := HAz.out.c0
                have c1 := HAz.out.c1
                have f1 := HAz.out.f1
                go_still_tail 11, (by kernel_rfl)
                change wpList _ _ _ _ _ wz.drew
                have HO3 := Lib.hid (HO.out.keptK HKz.out.drew hbp)
                have hsz := HKz.out.size
                have hltv := fun k hk => HO.out.lt k hk
                have c0d : wz.drew.cell? ⟨bp, 0, none⟩ = some (.string s) := c0
                have c1d : wz.drew.cell? ⟨bp, 1, none⟩ = some (.int .i64 j) := c1
                go_wp2_with (at_builtin; refine Lib.wpList_append_own_string _ rfl _ _ 52 9 rfl w.heap.size 5 i0 Tryz.underlying52 Tryz.underlying9 HI0.out hz0 hz1 hz2 _ _ _ rfl HO3.out _ rfl ?c3 ?c4 ?c5 ?_)
                case c3 => rw [HSX.out]; unfold maxLen; omega
                case c4 => rw [HSX.out]; omega
                case c5 => exact Nat.le_trans hszr hsz
                intro v' w5 hown' hgrow _
                have HW5 := Lib.hid hown'
                have HG5 := Lib.hid hgrow
                have HA5 := Lib.hid (RAt.grown (w := wz.drew) HAz.out hgrow (fun k hk => by have := (hltv k hk).1; omega))
                have c15 := HA5.out.c1
                have f15 := HA5.out.f1
                clear hown' hgrow c0d c1d
                go_wp2_with fail
                have hxs : Lib.strCells (s.extract j to) = bc (sl (L s) j to) := by
                  unfold Lib.strCells bc sl; rw [Lib.extract_data]
                go_roundg (s.size - to)
                case measure => rw [HG.out]; omega
                case rel =>
                  refine ⟨to, acc ++ sl (L s) j to, rfl, by omega, hts, ?_, ?_, HA5.out.set1 to, ?_, fun key k => (HR.out key k).trans (HL.out key acc k)⟩
                  · have := HW5.out
                    rw [hxs] at this
                    refine Own.keptK (bp := bp) ?_ ((Kept.refl bp _).set 1 _) hbp
                    unfold Own
                    rw [bc_append, List.length_append, sl_len _ _ _ (by rw [L_len]; exact hts) (by omega)]
                    exact this
                  · rw [List.length_append, sl_len _ _ _ (by rw [L_len]; exact hts) (by omega)]; omega
                  · refine Kept.set ?_ 1 _
                    refine KeptB.toK ((hK.toB (Nat.le_refl _)).trans ((HKz.out.drew.toB hszr).trans (KeptB.grown HG5.out (Nat.le_trans hszr hsz) (fun k hk => (hltv k hk).1))))
              · have HLW := Lib.hid hletw
                have HB := Lib.hid hB
                clear hletw hB
                go_wp2_with fail
                refine (HI1.out).mono ?_
                rintro e w2 ⟨rfl, n1, rfl⟩
                go_wp2_with fail
                refine (HI2.out n1).mono ?_
                rintro e w3 ⟨rfl, n2, rfl⟩
                go_wp2_with fail
                go_quiet (fail)
                go_wp2_with fail
                go_quiet ((go_at_call 71; exact (HLW.out _).mono (fun _ _ h => ⟨h.1, _, h.2⟩)))
                go_wp2_with fail
                refine (r_wrong bp s to 0 d 40 _ (by exact HA.out.set1 to)).mono ?_
                rintro e w4 ⟨rfl, ⟨d4, A4⟩, K4⟩
                have HA4 := Lib.hid A4
                clear A4
                go_wp2_with fail
                go_ret2
                exact .inr (.inr ⟨to, hts, HQ.out, ⟨rfl, ⟨d4, HA4.out⟩, hK.trans (Kept.trans (by with_reducible repeat (first | assumption | apply Kept.drewN | apply Kept.set | exact Kept.refl _ _)) K4)⟩, fun key k => (HR.out key k).trans (HB.out key acc k)⟩)
          · have hje : ((j : Int) == (s.size : Int)) = true := by simp; omega
            have HB : Hid (∀ key k, R (L s) j ⟨.text key .plain acc, k⟩ = .bad eForm j) := fun key k => by rw [R_end (by rw [L_len]; omega)]; cases k <;> simp [eof]
            clear h34 h92
            go_wp2_with fail
            refine (HI1.out).mono ?_
            rintro e w2 ⟨rfl, n1, rfl⟩
            go_wp2_with fail
            refine (HI2.out n1).mono ?_
            rintro e w3 ⟨rfl, n2, rfl⟩
            go_wp2_with fail
            go_quiet (fail)
            go_wp2_with fail
            refine (r_wrong bp s j 0 d 40 _ (by exact HA.out)).mono ?_
            rintro e w4 ⟨rfl, ⟨d4, A4⟩, K4⟩
            have HA4 := Lib.hid A4
            clear A4
            go_wp2_with fail
            go_ret2
            exact .inr (.inr ⟨j, hjs, HQ.out, ⟨rfl, ⟨d4, HA4.out⟩, hK.trans (Kept.trans (by with_reducible repeat (first | assumption | apply Kept.drewN | apply Kept.set | exact Kept.refl _ _)) K4)⟩, fun key k => (HR.out key k).trans (HB.out key k)⟩)
  · have HQ := Lib.hid hq
    have HA1 := Lib.hid A1
    clear hq A1 HT
    go_wp2_with fail
    go_ret2
    exact .inr (.inl ⟨HQ.out, rfl, ⟨d1, HA1.out⟩, K1⟩)

end Jot
end Go.Proofs.YthgcnmdnjfajbaaGreatDoor
