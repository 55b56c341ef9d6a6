/- Walk over the reference's reader: list, over what value comes to one deeper. Conditions: a reader that stands at a bracket. -/
/- Laws for the walk over the reference's member: slices of a row, appends out of a row, names in their order. Conditions: none. -/
import Derived.Test.YthgcnmdnjfajbaaGreatDoorRefL
import Derived.Test.YthgcnmdnjfajbaaGreatDoorJotSortL
namespace Go.Proofs.YthgcnmdnjfajbaaGreatDoor
open Go.RowKit
namespace Jot

set_option maxRecDepth 100000 in
set_option maxHeartbeats 1000000 in
theorem r_list_deep (bp : Nat) (s : ByteArray) (i : Nat) (w : World) (h : RAt w bp s i 0 16) (hi : i < s.size) (hc : (L s)[i]? = some 91) :
    Calls Tryz.prog 52 #[.pointer (some ⟨bp, 0, none⟩)] w (RVal bp s w i 16) := by
  have H := Lib.hid h
  have hbp := h.lt
  have HC := Lib.hid hc
  clear h hc
  go_enter Tryz.func52, Tryz.ntmps52
  go_wp2_with fail
  refine (r_opens_deep bp s i _ (by exact (H.out.alloc _).alloc _)).mono ?_
  rintro e w1 ⟨rfl, ⟨d1, A1⟩, K1⟩
  have HR := Lib.hid (RL.start hbp K1)
  have HA := Lib.hid A1
  obtain ⟨⟨d0, d1, d2, d3, d4⟩, ⟨e0, e1, e2, e3, e4⟩, ⟨f0, f1, f2, f3, f4⟩, _⟩ := HR.out.facts
  have hl := HR.out.lt
  clear A1 K1
  go_wp2_with fail
  refine bodyPost_ret (by simp [results, Tryz.results52, go_sem, e0, e1, e2, e3, e4]; try rfl) rfl ?_
  obtain ⟨q1, q2⟩ := HR.out.five hbp HA.out (.int .i64 5) (.int .i64 0) (.string ⟨#[]⟩) (.slice none 0 0) (.slice none 0 0)
  exact .inr ⟨5, 0, [], none, 0, 0, none, 0, 0, 41, i, by omega, ⟨rfl, ⟨_, q2⟩, q1⟩, fun K hK => arr_deep HC.out K hK⟩

/-- The loop's relation. -/
def RListRel (bp : Nat) (s : ByteArray) (w : World) (i d : Nat) (g : Nat) (ev : Value) (wr : World) : Prop :=
  ∃ (j : Nat) (its : List JV) (eb : Bool) (ai : Option Addr) (ci : Nat) (cs : List Value), (if eb then 0 else s.size - j + 1) ≤ g ∧ ev = .bool eb ∧ i < j ∧ j ≤ s.size ∧ RL w bp wr 5 (.slice none 0 0) (.slice ai its.length ci) ∧
    wr.ownsRow (w.heap.size + 2) 26 5 (.slice ai its.length ci) its.length cs ∧ its.length ≤ j ∧ RAt wr bp s j 0 (d + 1) ∧
    (eb = true → j < s.size ∧ ∀ K : List Fr, K.length = d → R (L s) i ⟨.val, K⟩ = R (L s) (j + 1) ⟨.after (.list its), K⟩) ∧
    (eb = false → NoBlank s j ∧ ∀ K : List Fr, K.length = d → R (L s) i ⟨.val, K⟩ = R (L s) j ⟨.val, .arr its :: K⟩)

theorem arr0_val0 {s : ByteArray} {j : Nat} (hb : NoBlank s j) (h93 : (L s)[j]? ≠ some 93) (K : List Fr) : R (L s) j ⟨.arr0, K⟩ = R (L s) j ⟨.val, K⟩ := by
  cases hc : (L s)[j]? with
  | none => have := List.getElem?_eq_none_iff.1 hc; rw [arr0_end this, val_end this]
  | some c => exact arr0_val hc (hb c hc) (fun e => h93 (by rw [hc, e])) K

set_option maxRecDepth 100000 in
set_option maxHeartbeats 4000000 in
theorem r_list_any (bp : Nat) (s : ByteArray) (i d : Nat) (w : World) (h : RAt w bp s i 0 d) (hi : i < s.size) (hs : s.size ≤ big) (hc : (L s)[i]? = some 91) (hd : d < 16) (hval : ValueR s (d + 1)) :
    Calls Tryz.prog 52 #[.pointer (some ⟨bp, 0, none⟩)] w (RVal bp s w i d) := by
  have H := Lib.hid h
  have HC := Lib.hid hc
  have HV := Lib.hid hval
  have HS := Lib.hid hs
  have hbp := h.lt
  obtain ⟨i0, hi0, hz0, hz1, hz2⟩ := info_parts infoJot
  have HI0 := Lib.hid hi0
  unfold big at hs
  clear h hc hval hi0
  go_enter Tryz.func52, Tryz.ntmps52
  go_wp2_with fail
  refine (r_opens_ok bp s i d _ (by exact (H.out.alloc _).alloc _) hd hi HS.out).mono ?_
  rintro e w1 ⟨j0, hj0, rfl, A1, K1⟩
  have HR := Lib.hid (RL.start hbp K1)
  have HA := Lib.hid A1
  have HJ := Lib.hid hj0
  have hj0s := hj0.2.1
  have hij0 := hj0.1
  have hl := HR.out.lt
  have hI1 := r_is bp s j0 0 (d + 1) 93 w1 A1
  have HI1 := Lib.hid hI1
  clear A1 K1 hj0 hI1 H
  go_wp2_with fail
  refine (HI1.out).mono ?_
  rintro e w2 ⟨rfl, n1, rfl⟩
  have HL : Hid (∀ K : List Fr, K.length = d → R (L s) i ⟨.val, K⟩ = R (L s) j0 ⟨.arr0, .arr [] :: K⟩) := fun K hK => by
    rw [arr_open HC.out K (by omega), HJ.out.R (blank_arr0 _)]
  obtain ⟨b, hb⟩ : ∃ b, b = isAt s j0 93 := ⟨_, rfl⟩
  have HB := Lib.hid hb
  rw [← hb]
  clear hb HI1
  go_wp2_with fail
  go_loopg [6] (s.size - j0 + 1) (fun g ev wr => RListRel bp s w i d g ev wr)
  case atStart =>
    refine ⟨j0, [], b, none, 0, [], by split <;> omega, rfl, by omega, hj0s, HR.out.keptK hbp ((Kept.refl _ _).drewN n1), World.ownsRow_nil _ _ _ _, by simp, HA.out.drewN n1, fun hbt => ?_, fun hbf => ?_⟩
    · have h93 : (L s)[j0]? = some 93 := by have := HB.out; rw [hbt] at this; exact of_decide_eq_true this.symm
      refine ⟨by have := (List.getElem?_eq_some_iff.1 h93).1; rwa [L_len] at this, fun K hK => ?_⟩
      rw [HL.out K hK, arr0_close h93]
    · have h93 : (L s)[j0]? ≠ some 93 := by have := HB.out; rw [hbf] at this; exact of_decide_eq_false this.symm
      refine ⟨HJ.out.2.2.2, fun K hK => ?_⟩
      rw [HL.out K hK, arr0_val0 HJ.out.2.2.2 h93]
  case round =>
    obtain ⟨j, its, eb, ai, ci, cs, hg, rfl, hij, hjs, hRL, hO, hlen, hA, hT, hF⟩ := hrel
    have HG := Lib.hid hg
    have HOW := Lib.hid hO
    have HRL := Lib.hid hRL
    have HAA := Lib.hid hA
    have HT := Lib.hid hT
    have HF := Lib.hid hF
    have hlr := hRL.lt
    clear hg hO hRL hA hT hF HR HA HL HB
    cases eb with
    | true =>
      obtain ⟨hjlt, hR⟩ := HT.out rfl
      have HR := Lib.hid hR
      have c1 := HAA.out.c1
      have f1 := HAA.out.f1
      have c3 := HAA.out.c3
      have f3 := HAA.out.f3
      have ed : ((d + 1 : Nat) : Int) - 1 = (d : Int) := by omega
      obtain ⟨⟨d0, d1, d2, d3, d4⟩, ⟨e0, e1, e2, e3, e4⟩, ⟨g0, g1, g2, g3, g4⟩, _⟩ := HRL.out.facts
      clear hR HT HF
      go_wp2_with fail
      refine bodyPost_ret (by simp [results, Tryz.results52, go_sem, e0, e1, e2, e3, e4]; try rfl) rfl ?_
      obtain ⟨q1, q2⟩ := (HRL.out.keptK hbp (((Kept.refl _ _).set 1 (.int .i64 ((j : Int) + 1))).set 3 (.int .i64 (d : Int)))).five hbp ((HAA.out.set1 (j + 1)).set3 d) (.int .i64 5) (.int .i64 0) (.string ⟨#[]⟩) (.slice none 0 0) (.slice ai its.length ci)
      exact .inl ⟨5, 0, [], none, 0, 0, ai, its.length, ci, .list its, j + 1, by omega, hjlt, ⟨rfl, q2, q1⟩, HR.out⟩
    | false =>
      obtain ⟨hnb, hR⟩ := HF.out rfl
      have HNB := Lib.hid hnb
      have HR := Lib.hid hR
      clear hnb hR HT HF
      go_wp2_with fail
      refine (HV.out bp j _ (by exact HAA.out) hjs HNB.out).mono ?_
      rintro e w3 (⟨k, n, t, an, ln, cn, ai3, li3, ci3, jv, j1, hjj, hj1, ⟨rfl, A3, K3⟩, hR3⟩ | ⟨k, n, t, an, ln, cn, ai3, li3, ci3, q, p, hp, ⟨rfl, ⟨d3, A3⟩, K3⟩, hR3⟩)
      · have HA3 := Lib.hid A3
        have HK3 := Lib.hid K3
        have HR3 := Lib.hid hR3
        have hsz3 := K3.size
        have HO3 := Lib.hid (ownsRow_keptK HOW.out K3 (by omega))
        have hai : ∀ k, (Value.slice ai its.length ci).ownBlock = some k → w.heap.size + 2 ≤ k ∧ k < wr.heap.size := fun k hk => HOW.out.lt k hk
        have HRL3 := Lib.hid (HRL.out.keptK hbp K3)
        have q4 := fun o => (HRL3.out.keptK hbp ((Kept.refl bp w3).alloc o)).facts.1.2.2.2.2
        clear A3 K3 hR3
        unfold str
        go_wp2_with (at_builtin; refine wpList_append_lies _ rfl _ _ 24 rfl (w.heap.size + 2) 26 i0 _ 5 80 Tryz.underlying24 HI0.out hz0 hz1 hz2 rfl (by decide) _ _ _ rfl ((HO3.out.alloc _).alloc _) ⟨w3.heap.size + 1, 0, none⟩ 1 1 [.int .i64 k, .int .i64 n, .string ⟨t.toArray⟩, .slice an ln cn, .slice ai3 li3 ci3] rfl rfl ?c1 ?c2 Nat.one_pos ?c3 ?c4 ?c5 (w3.heap.size + 2) ?c6 ?_)
        case c1 => exact World.news_of_block (cs := #[.int .i64 k, .int .i64 n, .string ⟨t.toArray⟩, .slice an ln cn, .slice ai3 li3 ci3]) (t := 26) (fr := (0, 0)) (heap_alloc_at _ _ (by simp))
        case c2 => exact news5_one k n t an ln cn ai3 li3 ci3
        case c3 => unfold maxLen; omega
        case c4 => omega
        case c5 => simp; omega
        case c6 => simp
        intro gg cap w4 hown hgrow hat _
        have HW4 := Lib.hid hown
        have HG4 := Lib.hid hgrow
        have hne1 : some (w.heap.size + 1) ≠ (Value.slice ai its.length ci).ownBlock := fun e => by have := (hai _ e.symm).1; omega
        have c14 := (hgrow.cell_far ⟨w.heap.size + 1, 4, none⟩ (by simp; omega) hne1).trans (HRL3.out.keptK hbp (((Kept.refl bp w3).alloc _).alloc _)).facts.1.2.2.2.2
        have f14 := (hgrow.frozen_far ⟨w.heap.size + 1, 4, none⟩ (by simp; omega) hne1).trans (HRL3.out.keptK hbp (((Kept.refl bp w3).alloc _).alloc _)).facts.2.2.2.2.2.2.2
        have HRL5 := Lib.hid (RL.item HRL.out hbp HK3.out hgrow (fun k hk => (hai k hk).1) (.slice (some ⟨gg, 0, none⟩) (its.length + 1) cap))
        have HA5 := Lib.hid (RAt.setOther (b := w.heap.size + 1) (o := 4) (RAt.grown ((HA3.out.alloc _).alloc _) hgrow (fun k hk => by have := (hai k hk).1; omega)) (by omega) (.slice (some ⟨gg, 0, none⟩) (its.length + 1) cap))
        have HO5 := Lib.hid (ownsRow_setCell_below (a := ⟨w.heap.size + 1, 4, none⟩) hown (show w.heap.size + 1 < w.heap.size + 2 by omega) (.slice (some ⟨gg, 0, none⟩) (its.length + 1) cap))
        clear hown hgrow hat hne1
        go_wp2_with fail
        obtain ⟨w5, hw5⟩ : ∃ w5, w5 = w4.setCell ⟨w.heap.size + 1, 4, none⟩ (.slice (some ⟨gg, 0, none⟩) (its.length + 1) cap) := ⟨_, rfl⟩
        rw [← hw5] at HRL5 HA5 HO5 ⊢
        clear hw5 c14 f14 HW4 HG4 q4
        refine (r_blanks bp s j1 0 (d + 1) _ (by exact HA5.out) hj1 HS.out).mono ?_
        rintro e w6 ⟨j2, hb2, rfl, A6, K6⟩
        have HB2 := Lib.hid hb2
        have HA6 := Lib.hid A6
        have hj2s := hb2.2.1
        have hj12 := hb2.1
        have HRL6 := Lib.hid (HRL5.out.keptK hbp K6)
        have HO6 := Lib.hid (ownsRow_keptK HO5.out K6 (by omega))
        have hI6 := r_is bp s j2 0 (d + 1) 93 w6 A6
        have hKR : ∀ K : List Fr, K.length = d → R (L s) i ⟨.val, K⟩ = R (L s) j2 ⟨.after jv, .arr its :: K⟩ := fun K hK => by
          rw [HR.out K hK, HR3.out (.arr its :: K) (by simp [hK]), hb2.R (blank_after _ _)]
        have HKR := Lib.hid hKR
        clear hb2 A6 hKR HR HR3 HRL5 HA5 HO5 HA3 HO3 HRL3 HRL
        by_cases h93 : (L s)[j2]? = some 93
        · rw [show isAt s j2 93 = true from decide_eq_true h93] at hI6
          have HI6 := Lib.hid hI6
          have H93 := Lib.hid h93
          have hj2lt : j2 < s.size := by have := (List.getElem?_eq_some_iff.1 h93).1; rwa [L_len] at this
          clear hI6 h93
          go_wp2_with fail
          refine (HI6.out).mono ?_
          rintro e w7 ⟨rfl, n7, rfl⟩
          go_wp2_with fail
          go_roundg 0
          case measure => have := HG.out; simp at this; omega
          case rel =>
            refine ⟨j2, its ++ [jv], true, some ⟨gg, 0, none⟩, cap, cs ++ [.int .i64 k, .int .i64 n, .string ⟨t.toArray⟩, .slice an ln cn, .slice ai3 li3 ci3], by simp, rfl, by omega, hj2s, ?_, ?_, by simp; omega, HA6.out.drewN n7, fun _ => ⟨hj2lt, fun K hK => ?_⟩, fun h => by cases h⟩
            · rw [List.length_append]; exact HRL6.out.keptK hbp ((Kept.refl _ _).drewN n7)
            · rw [List.length_append]; exact ownsRow_keptK HO6.out ((Kept.refl bp _).drewN n7) (by omega)
            · rw [HKR.out K hK, arr_close H93.out]
        · rw [show isAt s j2 93 = false from decide_eq_false h93] at hI6
          have HI6 := Lib.hid hI6
          have H93 := Lib.hid h93
          clear hI6 h93
          go_wp2_with fail
          refine (HI6.out).mono ?_
          rintro e w7 ⟨rfl, n7, rfl⟩
          go_wp2_with fail
          refine (r_takes bp s j2 (d + 1) 44 _ (by exact HA6.out.drewN n7) HS.out).mono ?_
          rintro e w8 (⟨h44, rfl, A8, K8⟩ | ⟨h44, rfl, ⟨d8, A8⟩, K8⟩)
          · have H44 := Lib.hid h44
            have HA8 := Lib.hid A8
            have HK8 := Lib.hid (Kept.trans ((Kept.refl _ _).drewN n7) K8)
            have hj2lt : j2 < s.size := by have := (List.getElem?_eq_some_iff.1 h44).1; rwa [L_len] at this
            clear h44 A8 K8
            go_wp2_with fail
            refine (r_blanks bp s (j2 + 1) 0 (d + 1) _ (by exact HA8.out) hj2lt HS.out).mono ?_
            rintro e w9 ⟨j3, hb3, rfl, A9, K9⟩
            have HB3 := Lib.hid hb3
            have HA9 := Lib.hid A9
            have HK9 := Lib.hid (HK8.out.trans K9)
            have hj3s := hb3.2.1
            have hj23 := hb3.1
            clear hb3 A9 K9
            go_wp2_with fail
            go_roundg (s.size - j3 + 1)
            case measure => have := HG.out; simp at this; omega
            case rel =>
              refine ⟨j3, its ++ [jv], false, some ⟨gg, 0, none⟩, cap, cs ++ [.int .i64 k, .int .i64 n, .string ⟨t.toArray⟩, .slice an ln cn, .slice ai3 li3 ci3], by simp, rfl, by omega, hj3s, ?_, ?_, by simp; omega, HA9.out, (fun h => by cases h), fun _ => ⟨HB3.out.2.2.2, fun K hK => ?_⟩⟩
              · rw [List.length_append]; exact HRL6.out.keptK hbp HK9.out
              · rw [List.length_append]; exact ownsRow_keptK HO6.out HK9.out (by omega)
              · rw [HKR.out K hK, arr_comma H44.out, HB3.out.R (blank_val _)]
          · have H44 := Lib.hid h44
            have HA8 := Lib.hid A8
            have HRL8 := Lib.hid (HRL6.out.keptK hbp (Kept.trans ((Kept.refl _ _).drewN n7) K8))
            obtain ⟨⟨d0, d1, d2, d3, d4⟩, ⟨e0, e1, e2, e3, e4⟩, ⟨g0, g1, g2, g3, g4⟩, _⟩ := HRL8.out.facts
            clear h44 A8 K8
            go_wp2_with fail
            refine bodyPost_ret (by simp [results, Tryz.results52, go_sem, e0, e1, e2, e3, e4]; try rfl) rfl ?_
            obtain ⟨q1, q2⟩ := HRL8.out.five hbp HA8.out (.int .i64 5) (.int .i64 0) (.string ⟨#[]⟩) (.slice none 0 0) (.slice (some ⟨gg, 0, none⟩) (its.length + 1) cap)
            refine .inr ⟨5, 0, [], none, 0, 0, some ⟨gg, 0, none⟩, its.length + 1, cap, 40, j2, hj2s, ⟨rfl, ⟨_, q2⟩, q1⟩, fun K hK => ?_⟩
            rw [HKR.out K hK, arr_bad fun c hc => ⟨HB2.out.2.2.2 c hc, fun e => H44.out (by rw [hc, e]), fun e => H93.out (by rw [hc, e])⟩]
            rfl
      · have HA3 := Lib.hid A3
        have HR3 := Lib.hid hR3
        have hsz3 := K3.size
        have HRL3 := Lib.hid (HRL.out.keptK hbp (K3.alloc (.cells #[.int .i64 k, .int .i64 n, .string ⟨t.toArray⟩, .slice an ln cn, .slice ai3 li3 ci3] 26 (0, 0))))
        obtain ⟨⟨d0, d1, d2, d3, d4⟩, ⟨e0, e1, e2, e3, e4⟩, ⟨g0, g1, g2, g3, g4⟩, _⟩ := HRL3.out.facts
        clear A3 K3 hR3
        unfold str
        go_wp2_with fail
        refine bodyPost_ret (by simp [results, Tryz.results52, go_sem, e0, e1, e2, e3, e4]; try rfl) rfl ?_
        obtain ⟨q1, q2⟩ := HRL3.out.five hbp (HA3.out.alloc _) (.int .i64 5) (.int .i64 0) (.string ⟨#[]⟩) (.slice none 0 0) (.slice ai its.length ci)
        refine .inr ⟨5, 0, [], none, 0, 0, ai, its.length, ci, q, p, hp, ⟨rfl, ⟨_, q2⟩, q1⟩, fun K hK => ?_⟩
        rw [HR.out K hK]
        exact HR3.out (.arr its :: K) (by simp [hK])

end Jot
end Go.Proofs.YthgcnmdnjfajbaaGreatDoor

namespace Go.Proofs.YthgcnmdnjfajbaaGreatDoor
open Go.RowKit
namespace Jot
open Lib (compareBytes)

/-- An append out of whatever slice, onto a row of the call's own. -/
theorem run_append_any {P : Program} (w : World) (base : Nat) (t ty e : TypeId) (i : TypeInfo) (z : Value) (size bytes : Nat) (ht : P.underlying t = some (.slice e)) (hi : P.info? e = some i) (hz : i.zero = some z)
    (hsize : i.size = size) (hby : i.bytes = bytes) (hzs : z.cells.size = size) (hsz : 0 < size) (v : Value) (n : Nat) (xs : List Value) (hown : w.ownsRow base e size v n xs)
    (ao : Option Addr) (m c : Nat) (news : List Value) (hl : news.length = m * size) (hnil : ao = none → m = 0) (hnews : ∀ a, ao = some a → ∀ j u, news[j]? = some u → w.cell? (a.add j) = some u) (h1 : ∀ u ∈ news, u.oneCell' = true)
    (h63 : n + m ≤ maxLen) (hbytes : (n + m) * bytes ≤ 140737488355328) (hbase : base ≤ w.heap.size) :
    ∃ a' c' w', (Builtin.append_ #[t, t] ty #[v, .slice ao m c]).run P w = .ok (.slice a' (n + m) c') w' ∧ w'.ownsRow base e size (.slice a' (n + m) c') (n + m) (xs ++ news) ∧ w.grownBy w' v.ownBlock ∧
      ((Value.slice a' (n + m) c').ownBlock = v.ownBlock ∨ (Value.slice a' (n + m) c').ownBlock = some w.heap.size) := by
  cases ao with
  | some a =>
    obtain ⟨v', w', hr, h2, h3, _, h5⟩ := run_append_own_at (P := P) w base t ty e i z size bytes ht hi hz hsize hby hzs hsz v n xs hown a m c news hl (hnews a rfl) h1 h63 hbytes hbase
    obtain ⟨a', c', rfl⟩ : ∃ a' c', v' = .slice a' (n + m) c' := by
      rcases h2.2 with ⟨h, h0⟩ | ⟨g, cap, cur, h, _⟩
      · exact ⟨none, 0, by rw [h, h0]⟩
      · exact ⟨_, _, h⟩
    exact ⟨a', c', w', hr, h2, h3, h5⟩
  | none =>
    obtain rfl := hnil rfl
    obtain rfl : news = [] := List.eq_nil_of_length_eq_zero (by simpa using hl)
    obtain ⟨a', c', rfl, hle⟩ : ∃ a' c', v = .slice a' n c' ∧ n ≤ c' := by
      rcases hown.2 with ⟨h, h0⟩ | ⟨g, cap, cur, h, _, _, hle, _⟩
      · exact ⟨none, 0, by rw [h, h0], by omega⟩
      · exact ⟨_, _, h, hle⟩
    refine ⟨a', c', w, run_append_nothing w t t ty e i ht hi a' n c' hle _ (Src.ofNil w ht c), ?_, ⟨rfl, rfl, rfl, Nat.le_refl _, fun _ _ _ => rfl⟩, .inl rfl⟩
    rw [List.append_nil]; exact hown

theorem wpList_append_any {P : Program} (w : World) {ops : Array Oper} {rest : List Oper} {o : Oper} {a : Act} {Q : Exit → Act → World → Prop} (hgd : o.guard = none) (s x : Operand) (t : TypeId)
    (ho : o.op = .call { callee := .builtin .append, args := #[s, x], argTypes := #[t, t] })
    (base : Nat) (e : TypeId) (i : TypeInfo) (z : Value) (size bytes : Nat) (ht : P.underlying t = some (.slice e)) (hi : P.info? e = some i) (hz : i.zero = some z)
    (hsize : i.size = size) (hby : i.bytes = bytes) (hzs : z.cells.size = size) (hsz : 0 < size)
    (v : Value) (n : Nat) (xs : List Value) (hs : a.eval s = v) (hown : w.ownsRow base e size v n xs)
    (ao : Option Addr) (m c : Nat) (news : List Value) (hx : a.eval x = .slice ao m c) (hl : news.length = m * size) (hnil : ao = none → m = 0) (hnews : ∀ a, ao = some a → ∀ j u, news[j]? = some u → w.cell? (a.add j) = some u) (h1 : ∀ u ∈ news, u.oneCell' = true)
    (N : Nat) (hN : n + m = N) (h63 : N ≤ maxLen) (hbytes : N * bytes ≤ 140737488355328) (hbase : base ≤ w.heap.size)
    (h : ∀ a' c' w', w'.ownsRow base e size (.slice a' N c') N (xs ++ news) → w.grownBy w' v.ownBlock → ((Value.slice a' N c').ownBlock = v.ownBlock ∨ (Value.slice a' N c').ownBlock = some w.heap.size) → wpList P ops Q rest (a.put o.dst (.slice a' N c')) w') :
    wpList P ops Q (o :: rest) a w := by
  subst hN
  refine wpList_plain hgd fun K hK => ?_
  obtain ⟨a', c', w', hr, h2, h3, h4⟩ := run_append_any (P := P) w base t o.type e i z size bytes ht hi hz hsize hby hzs hsz v n xs hown ao m c news hl hnil hnews h1 h63 hbytes hbase
  unfold Oper.wp execOp
  simp only [ho, resolve, invoke, builtin, Sem.run_bind, Sem.run_pure, Result.andThen_ok, List.map_toArray, List.map_cons, List.map_nil, hs, hx, hr]
  exact hK _ _ (h a' c' w' h2 h3 h4)

/-- A slice of a slice, by its run. -/
theorem wpList_slice_h {P : Program} (w : World) {ops : Array Oper} {rest : List Oper} {o : Oper} {a : Act} {Q : Exit → Act → World → Prop} (hgd : o.guard = none) (t : TypeId) (x hi : Operand) (ho : o.op = .slice t x none (some hi) none)
    (xv hv v : Value) (hx : a.eval x = xv) (hh : a.eval hi = hv) (hr : (Instr.sliceAt t xv none (some hv) none).run P w = .ok v w) (h : wpList P ops Q rest (a.put o.dst v) w) : wpList P ops Q (o :: rest) a w := by
  refine wpList_plain hgd fun K hK => ?_
  unfold Oper.wp execOp
  simp only [ho, Option.map_none, Option.map_some, hx, hh, Sem.run_bind, Sem.run_pure, hr, Result.andThen_ok]
  exact hK _ _ h

theorem wpList_slice_l {P : Program} (w : World) {ops : Array Oper} {rest : List Oper} {o : Oper} {a : Act} {Q : Exit → Act → World → Prop} (hgd : o.guard = none) (t : TypeId) (x lo : Operand) (ho : o.op = .slice t x (some lo) none none)
    (xv lv v : Value) (hx : a.eval x = xv) (hh : a.eval lo = lv) (hr : (Instr.sliceAt t xv (some lv) none none).run P w = .ok v w) (h : wpList P ops Q rest (a.put o.dst v) w) : wpList P ops Q (o :: rest) a w := by
  refine wpList_plain hgd fun K hK => ?_
  unfold Oper.wp execOp
  simp only [ho, Option.map_none, Option.map_some, hx, hh, Sem.run_bind, Sem.run_pure, hr, Result.andThen_ok]
  exact hK _ _ h

theorem elem_of {P : Program} {t e : TypeId} (ht : P.underlying t = some (.slice e)) : P.underlying t = some (.slice (P.elem t)) := by
  unfold Program.elem; rw [ht]

/-- The front of a row. -/
theorem cut_h {P : Program} {w : World} {B : Nat} {t e : TypeId} {i : TypeInfo} {size : Nat} {v : Value} {n : Nat} {xs : List Value} (ht : P.underlying t = some (.slice e)) (hi : P.info? e = some i) (hsize : i.size = size) (hown : w.ownsRow B e size v n xs) (k : Nat) (hk : k ≤ n) :
    ∃ ao c, (∀ w', (Instr.sliceAt t v none (some (.int .i64 (k : Int))) none).run P w' = .ok (.slice ao k c) w') ∧ (ao = none → k = 0) ∧ ∀ a, ao = some a → ∀ j u, (xs.take (k * size))[j]? = some u → w.cell? (a.add j) = some u := by
  have he : P.elem t = e := by unfold Program.elem; rw [ht]
  have hcells := fun g hg => World.ownsRow.cells (g := g) hown hg
  obtain ⟨a0, c0, rfl, hle, hnil⟩ : ∃ a0 c0, v = .slice a0 n c0 ∧ n ≤ c0 ∧ (a0 = none → n = 0) := by
    rcases hown.2 with ⟨h, h0⟩ | ⟨g, cap, cur, h, _, _, hle, _⟩
    · exact ⟨none, 0, by rw [h, h0], by omega, fun _ => h0⟩
    · exact ⟨_, _, h, hle, fun h => by cases h⟩
  refine ⟨a0, c0, fun w' => ?_, fun h => by have := hnil h; omega, fun a ha j u hu => ?_⟩
  · rw [run_sliceAt_slice w' t _ _ _ _ (elem_of ht), run_slice_h w' t a0 n c0 (elem_of ht) .i64 (k : Int) (by omega) (by omega), he]
    have : (if c0 = 0 then a0 else a0.map (·.add (0 * size))) = a0 := by
      split
      · rfl
      · cases a0 <;> simp [Addr.add]
    simp [sizeOf, typeInfo, hi, sliced, hsize, Addr.add]
  · subst ha
    rcases hown.2 with ⟨h, _⟩ | ⟨g, cap, cur, h, _⟩
    · cases h
    · cases h
      rw [List.getElem?_take] at hu
      split at hu
      · exact hcells g rfl j u hu
      · cases hu

/-- The rest of a row. -/
theorem cut_l {P : Program} {w : World} {B : Nat} {t e : TypeId} {i : TypeInfo} {size : Nat} {v : Value} {n : Nat} {xs : List Value} (ht : P.underlying t = some (.slice e)) (hi : P.info? e = some i) (hsize : i.size = size) (hown : w.ownsRow B e size v n xs) (k : Nat) (hk : k ≤ n) :
    ∃ ao c, (∀ w', (Instr.sliceAt t v (some (.int .i64 (k : Int))) none none).run P w' = .ok (.slice ao (n - k) c) w') ∧ (ao = none → n - k = 0) ∧ ∀ a, ao = some a → ∀ j u, (xs.drop (k * size))[j]? = some u → w.cell? (a.add j) = some u := by
  have he : P.elem t = e := by unfold Program.elem; rw [ht]
  have hcells := fun g hg => World.ownsRow.cells (g := g) hown hg
  have hxl := hown.1
  obtain ⟨a0, c0, rfl, hle, hnil⟩ : ∃ a0 c0, v = .slice a0 n c0 ∧ n ≤ c0 ∧ (a0 = none → n = 0) := by
    rcases hown.2 with ⟨h, h0⟩ | ⟨g, cap, cur, h, _, _, hle, _⟩
    · exact ⟨none, 0, by rw [h, h0], by omega, fun _ => h0⟩
    · exact ⟨_, _, h, hle, fun h => by cases h⟩
  refine ⟨if c0 = k then a0 else a0.map (·.add (k * size)), c0 - k, fun w' => ?_, fun h => ?_, fun a ha j u hu => ?_⟩
  · rw [run_sliceAt_slice w' t _ _ _ _ (elem_of ht), run_slice_l w' t a0 n c0 (elem_of ht) .i64 (k : Int) (by omega) (by omega), he]
    simp [sizeOf, typeInfo, hi, sliced, hsize]
  · have : a0 = none := by
      split at h
      · exact h
      · cases a0
        · rfl
        · cases h
    have := hnil this; omega
  · rw [List.getElem?_drop] at hu
    rcases hown.2 with ⟨h, h0⟩ | ⟨g, cap, cur, h, _⟩
    · cases h
      have : (xs[k * size + j]?) = none := List.getElem?_eq_none (by rw [hxl, h0]; omega)
      rw [this] at hu; cases hu
    · cases h
      have hu' := hcells g rfl _ u hu
      split at ha
      · rename_i hck
        have h2 := (List.getElem?_eq_some_iff.1 hu).1
        rw [hxl] at h2
        have : n = k := by omega
        subst this
        omega
      · cases ha
        rw [Addr.add_lit] at hu'
        show w.cell? (((⟨g, 0, none⟩ : Addr).add (k * size)).add j) = some u
        rw [Addr.add_lit, Addr.add_lit, ← hu']
        simp

/-- Rows of two types are two rows. -/
theorem own_apart {w : World} {B B' : Nat} {e e' : TypeId} {size size' : Nat} {v v' : Value} {n n' : Nat} {xs xs' : List Value} (h : w.ownsRow B e size v n xs) (h' : w.ownsRow B' e' size' v' n' xs') (he : e ≠ e') : v.ownBlock = none ∨ v.ownBlock ≠ v'.ownBlock := by
  rcases h.2 with ⟨rfl, _⟩ | ⟨g, cap, cur, rfl, _, hg, _⟩
  · exact .inl rfl
  · rcases h'.2 with ⟨rfl, _⟩ | ⟨g', cap', cur', rfl, _, hg', _⟩
    · exact .inr (by simp [Value.ownBlock])
    · refine .inr fun e0 => ?_
      simp [Value.ownBlock] at e0
      subst e0
      rw [hg] at hg'
      cases hg'
      exact he rfl

theorem own_le {w : World} {B B' : Nat} {e : TypeId} {size : Nat} {v : Value} {n : Nat} {xs : List Value} (h : w.ownsRow B e size v n xs) (hB : B' ≤ B) : w.ownsRow B' e size v n xs := by
  refine ⟨h.1, ?_⟩
  rcases h.2 with h2 | ⟨g, cap, cur, hv, hg, r⟩
  · exact .inl h2
  · exact .inr ⟨g, cap, cur, hv, Nat.le_trans hB hg, r⟩

theorem bytesLess_cb : ∀ a b : Bs, Op.bytesLess a b = decide (compareBytes a b < 0)
  | [], [] => by simp [Op.bytesLess, compareBytes]
  | [], _ :: _ => by simp [Op.bytesLess, compareBytes]
  | _ :: _, [] => by simp [Op.bytesLess, compareBytes]
  | a :: x, b :: y => by
    rw [Op.bytesLess, compareBytes, bytesLess_cb x y]
    by_cases h1 : a < b
    · simp [h1]
    · by_cases h2 : b < a
      · have : a ≠ b := fun e => by subst e; exact h1 h2
        simp [h1, h2, this]
      · have : a = b := by
          apply UInt8.toNat_inj.1
          rw [UInt8.lt_iff_toNat_lt] at h1 h2
          omega
        subst this
        simp [h1]

/-- Rising names. -/
def Rising (ns : List Bs) : Prop := ns.Pairwise fun a b => compareBytes a b < 0

/-- The place of a name among others: ahead of it the smaller ones. -/
def Placed (ns : List Bs) (name : Bs) (k : Nat) : Prop := k ≤ ns.length ∧ (∀ x ∈ ns.take k, compareBytes x name < 0)

theorem Placed.step {ns : List Bs} {name x : Bs} {k : Nat} (h : Placed ns name k) (hx : ns[k]? = some x) (hlt : compareBytes x name < 0) : Placed ns name (k + 1) := by
  have hk := (List.getElem?_eq_some_iff.1 hx).1
  refine ⟨hk, fun y hy => ?_⟩
  rw [List.take_add_one, hx] at hy
  rcases List.mem_append.1 hy with hy | hy
  · exact h.2 y hy
  · simp at hy; subst hy; exact hlt

theorem placed_new {ns : List Bs} {name : Bs} {k : Nat} (hs : Rising ns) (h : Placed ns name k) (hge : ∀ x, ns[k]? = some x → 0 < compareBytes x name) :
    name ∉ ns ∧ Rising (ns.take k ++ [name] ++ ns.drop k) := by
  have back : ∀ x ∈ ns.drop k, 0 < compareBytes x name := by
    intro x hx
    cases hd : ns.drop k with
    | nil => rw [hd] at hx; cases hx
    | cons y r =>
      have hy : ns[k]? = some y := by have := List.getElem?_drop (xs := ns) (i := k) (j := 0); rw [hd] at this; simpa using this.symm
      have hyp := hge y hy
      rw [hd] at hx
      rcases List.mem_cons.1 hx with rfl | hx
      · exact hyp
      · have hp : (ns.drop k).Pairwise fun a b => compareBytes a b < 0 := hs.sublist (List.drop_sublist k ns)
        rw [hd] at hp
        have hyx := (List.pairwise_cons.1 hp).1 x hx
        have h1 := cb_neg y name
        have h2 := cb_neg x name
        have := cb_trans name y x (by omega) hyx
        omega
  refine ⟨fun hm => ?_, ?_⟩
  · rw [← List.take_append_drop k ns] at hm
    rcases List.mem_append.1 hm with hm | hm
    · have := h.2 name hm; rw [cb_self] at this; omega
    · have := back name hm; rw [cb_self] at this; omega
  · unfold Rising
    rw [List.append_assoc, List.pairwise_append]
    refine ⟨hs.sublist (List.take_sublist k ns), ?_, fun a ha b hb => ?_⟩
    · rw [List.singleton_append, List.pairwise_cons]
      refine ⟨fun x hx => ?_, hs.sublist (List.drop_sublist k ns)⟩
      have := back x hx
      have := cb_neg x name
      omega
    · rw [List.singleton_append] at hb
      rcases List.mem_cons.1 hb with rfl | hb
      · exact h.2 a ha
      · have h0 := h.2 a ha
        have h1 := back b hb
        have h2 := cb_neg b name
        exact cb_trans a name b h0 (by omega)

theorem mem_placed (ns : List Bs) (name : Bs) (k : Nat) (x : Bs) : x ∈ ns.take k ++ [name] ++ ns.drop k ↔ x = name ∨ x ∈ ns := by
  have : x ∈ ns ↔ x ∈ ns.take k ∨ x ∈ ns.drop k := by rw [← List.mem_append, List.take_append_drop]
  rw [this, List.mem_append, List.mem_append, List.mem_singleton]
  constructor
  · rintro ((h | h) | h)
    · exact .inr (.inl h)
    · exact .inl h
    · exact .inr (.inr h)
  · rintro (h | h | h)
    · exact .inl (.inr h)
    · exact .inl (.inl h)
    · exact .inr h

end Jot
end Go.Proofs.YthgcnmdnjfajbaaGreatDoor
