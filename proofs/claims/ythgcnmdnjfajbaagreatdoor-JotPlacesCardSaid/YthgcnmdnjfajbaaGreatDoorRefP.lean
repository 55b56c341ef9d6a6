/- Walk over the reference's reader: object, over what value comes to one deeper. Conditions: a reader that stands at a brace. -/
import Derived.Test.YthgcnmdnjfajbaaGreatDoorRefO
namespace Go.Proofs.YthgcnmdnjfajbaaGreatDoor
open Go.RowKit
namespace Jot
open Lib (compareBytes)

set_option maxRecDepth 100000 in
set_option maxHeartbeats 1000000 in
theorem r_object_deep (bp : Nat) (s : ByteArray) (i : Nat) (w : World) (h : RAt w bp s i 0 16) (hi : i < s.size) (hc : (L s)[i]? = some 123) :
    Calls Tryz.prog 53 #[.pointer (some ⟨bp, 0, none⟩)] w (RVal bp s w i 16) := by
  have H := Lib.hid h
  have hbp := h.lt
  have HC := Lib.hid hc
  clear h hc
  go_enter Tryz.func53, Tryz.ntmps53
  go_wp2_with fail
  refine (r_opens_deep bp s i _ (by exact (H.out.alloc _).alloc _)).mono ?_
  rintro e w1 ⟨rfl, ⟨d1, A1⟩, K1⟩
  have HR := Lib.hid (RL.start hbp K1)
  have HA := Lib.hid A1
  obtain ⟨⟨d0, d1, d2, d3, d4⟩, ⟨e0, e1, e2, e3, e4⟩, ⟨f0, f1, f2, f3, f4⟩, _⟩ := HR.out.facts
  have hl := HR.out.lt
  clear A1 K1
  go_wp2_with fail
  refine bodyPost_ret (by simp [results, Tryz.results53, go_sem, e0, e1, e2, e3, e4]; try rfl) rfl ?_
  obtain ⟨q1, q2⟩ := HR.out.five hbp HA.out (.int .i64 6) (.int .i64 0) (.string ⟨#[]⟩) (.slice none 0 0) (.slice none 0 0)
  exact .inr ⟨6, 0, [], none, 0, 0, none, 0, 0, 41, i, by omega, ⟨rfl, ⟨_, q2⟩, q1⟩, fun K hK => obj_deep HC.out K hK⟩

/-- The loop's relation. -/
def RObjRel (bp : Nat) (s : ByteArray) (w : World) (i d : Nat) (g : Nat) (ev : Value) (wr : World) : Prop :=
  ∃ (j : Nat) (mem : List (Bs × JV)) (ns : List Bs) (eb : Bool) (an : Option Addr) (cn : Nat) (ai : Option Addr) (ci : Nat) (cs : List Value), (if eb then 0 else s.size - j + 1) ≤ g ∧ ev = .bool eb ∧ i < j ∧ j ≤ s.size ∧ RL w bp wr 6 (.slice an ns.length cn) (.slice ai ns.length ci) ∧
    wr.ownsRow (w.heap.size + 2) 9 1 (.slice an ns.length cn) ns.length (ns.map str) ∧ wr.ownsRow (w.heap.size + 2) 26 5 (.slice ai ns.length ci) ns.length cs ∧ (∀ u ∈ cs, Value.oneCell' u = true) ∧ Rising ns ∧ (∀ x, x ∈ ns ↔ x ∈ mem.map (·.1)) ∧ ns.length ≤ j ∧ RAt wr bp s j 0 (d + 1) ∧
    (eb = true → ∃ jv, j < s.size ∧ ∀ K : List Fr, K.length = d → R (L s) i ⟨.val, K⟩ = R (L s) (j + 1) ⟨.after jv, K⟩) ∧
    (eb = false → NoBlank s j ∧ ∀ K : List Fr, K.length = d → R (L s) i ⟨.val, K⟩ = R (L s) j ⟨.key, .obj mem :: K⟩)

theorem obj0_key0 {s : ByteArray} {j : Nat} (hb : NoBlank s j) (h125 : (L s)[j]? ≠ some 125) (K : List Fr) : R (L s) j ⟨.obj0, K⟩ = R (L s) j ⟨.key, K⟩ := by
  cases hc : (L s)[j]? with
  | none =>
    have := List.getElem?_eq_none_iff.1 hc
    rw [obj0_end this, key_bad fun c h => by rw [hc] at h; cases h]
  | some c => exact obj0_key hc (hb c hc) (fun e => h125 (by rw [hc, e])) K

theorem RL.set5 {w wr : World} {bp : Nat} {kd : Int} {nv iv : Value} (h : RL w bp wr kd nv iv) (nv' iv' : Value) :
    RL w bp (setFive wr (w.heap.size + 1) (.int .i64 6) (.int .i64 0) (.string ⟨#[]⟩) nv' iv') 6 nv' iv' := by
  refine ⟨((((h.kept.setNew (Nat.le_succ _) _).setNew (Nat.le_succ _) _).setNew (Nat.le_succ _) _).setNew (Nat.le_succ _) _).setNew (Nat.le_succ _) _, ?_, ?_⟩
  · rw [setFive_far _ _ _ _ _ _ trivial (by omega)]; exact h.b0
  · rw [heap_set_same (heap_set_same (heap_set_same (heap_set_same (heap_set_same h.b1))))]; rfl

theorem own_set5 {w : World} {B b : Nat} {e : TypeId} {size : Nat} {v : Value} {n : Nat} {xs : List Value} (h : w.ownsRow B e size v n xs) (hb : b < B) (u0 u1 u2 u3 u4 : Value) : (setFive w b u0 u1 u2 u3 u4).ownsRow B e size v n xs :=
  own_same h fun c hc => setFive_far _ _ _ _ _ _ trivial (by have := (h.lt c hc).1; omega)

set_option maxRecDepth 100000 in
set_option maxHeartbeats 4000000 in
theorem r_object_any (bp : Nat) (s : ByteArray) (i d : Nat) (w : World) (h : RAt w bp s i 0 d) (hi : i < s.size) (hs : s.size ≤ big) (hc : (L s)[i]? = some 123) (hd : d < 16) (hval : ValueR s (d + 1)) :
    Calls Tryz.prog 53 #[.pointer (some ⟨bp, 0, none⟩)] w (RVal bp s w i d) := by
  have H := Lib.hid h
  have HC := Lib.hid hc
  have HV := Lib.hid hval
  have HS := Lib.hid hs
  have hbp := h.lt
  unfold big at hs
  clear h hc hval
  go_enter Tryz.func53, Tryz.ntmps53
  go_wp2_with fail
  refine (r_opens_ok bp s i d _ (by exact (H.out.alloc _).alloc _) hd hi HS.out).mono ?_
  rintro e w1 ⟨j0, hj0, rfl, A1, K1⟩
  have HR := Lib.hid (RL.start hbp K1)
  have HA := Lib.hid A1
  have HJ := Lib.hid hj0
  have hj0s := hj0.2.1
  have hij0 := hj0.1
  have hl := HR.out.lt
  have hI1 := r_is bp s j0 0 (d + 1) 125 w1 A1
  have HI1 := Lib.hid hI1
  clear A1 K1 hj0 hI1 H
  go_wp2_with fail
  refine (HI1.out).mono ?_
  rintro e w2 ⟨rfl, n1, rfl⟩
  have HL : Hid (∀ K : List Fr, K.length = d → R (L s) i ⟨.val, K⟩ = R (L s) j0 ⟨.obj0, .obj [] :: K⟩) := fun K hK => by
    rw [obj_open HC.out K (by omega), HJ.out.R (blank_obj0 _)]
  obtain ⟨b, hb⟩ : ∃ b, b = isAt s j0 125 := ⟨_, rfl⟩
  have HB := Lib.hid hb
  rw [← hb]
  clear hb HI1
  go_wp2_with fail
  go_loopg [6] (s.size - j0 + 1) (fun g ev wr => RObjRel bp s w i d g ev wr)
  case atStart =>
    refine ⟨j0, [], [], b, none, 0, none, 0, [], by split <;> omega, rfl, by omega, hj0s, HR.out.keptK hbp ((Kept.refl _ _).drewN n1), World.ownsRow_nil _ _ _ _, World.ownsRow_nil _ _ _ _, by simp, List.Pairwise.nil, by simp, by simp, HA.out.drewN n1, fun hbt => ?_, fun hbf => ?_⟩
    · have h125 : (L s)[j0]? = some 125 := by have := HB.out; rw [hbt] at this; exact of_decide_eq_true this.symm
      refine ⟨.obj [], by have := (List.getElem?_eq_some_iff.1 h125).1; rwa [L_len] at this, fun K hK => ?_⟩
      rw [HL.out K hK, obj0_close h125]
    · have h125 : (L s)[j0]? ≠ some 125 := by have := HB.out; rw [hbf] at this; exact of_decide_eq_false this.symm
      refine ⟨HJ.out.2.2.2, fun K hK => ?_⟩
      rw [HL.out K hK, obj0_key0 HJ.out.2.2.2 h125]
  case round =>
    obtain ⟨j, mem, ns, eb, an, cn, ai, ci, cs, hg, rfl, hij, hjs, hRL, hN, hI, hone, hrise, hmem, hlen, hA, hT, hF⟩ := hrel
    have HG := Lib.hid hg
    have HN := Lib.hid hN
    have HI := Lib.hid hI
    have HONE := Lib.hid hone
    have HRISE := Lib.hid hrise
    have HMEM := Lib.hid hmem
    have HRL := Lib.hid hRL
    have HAA := Lib.hid hA
    have HT := Lib.hid hT
    have HF := Lib.hid hF
    have hlr := hRL.lt
    clear hg hN hI hone hrise hmem hRL hA hT hF HR HA HL HB
    cases eb with
    | true =>
      obtain ⟨jv, hjlt, hR⟩ := HT.out rfl
      have HR := Lib.hid hR
      have c1 := HAA.out.c1
      have p1 := HAA.out.f1
      have c3 := HAA.out.c3
      have p3 := HAA.out.f3
      have ed : ((d + 1 : Nat) : Int) - 1 = (d : Int) := by omega
      obtain ⟨⟨d0, d1, d2, d3, d4⟩, ⟨e0, e1, e2, e3, e4⟩, ⟨g0, g1, g2, g3, g4⟩, _⟩ := HRL.out.facts
      clear hR HT HF
      go_wp2_with fail
      refine bodyPost_ret (by simp [results, Tryz.results53, go_sem, e0, e1, e2, e3, e4]; try rfl) rfl ?_
      obtain ⟨q1, q2⟩ := (HRL.out.keptK hbp (((Kept.refl _ _).set 1 (.int .i64 ((j : Int) + 1))).set 3 (.int .i64 (d : Int)))).five hbp ((HAA.out.set1 (j + 1)).set3 d) (.int .i64 6) (.int .i64 0) (.string ⟨#[]⟩) (.slice an ns.length cn) (.slice ai ns.length ci)
      exact .inl ⟨6, 0, [], an, ns.length, cn, ai, ns.length, ci, jv, j + 1, by omega, hjlt, ⟨rfl, q2, q1⟩, HR.out⟩
    | false =>
      obtain ⟨hnb, hR⟩ := HF.out rfl
      have HNB := Lib.hid hnb
      have HR := Lib.hid hR
      obtain ⟨⟨m0, m1, m2, m3, m4⟩, ⟨e0, e1, e2, e3, e4⟩, ⟨g0, g1, g2, g3, g4⟩, _⟩ := HRL.out.facts
      clear hnb hR HT HF e0 e1 e2 e3 e4 g0 g1 g2 g3 g4
      go_wp2_with fail
      refine (r_member bp s j (d + 1) (w.heap.size + 2) ns an cn ai ci cs _ (by exact HAA.out) hjs HS.out HNB.out (by exact HN.out) (by exact HI.out) HONE.out (by omega) HRISE.out hlen HV.out).mono ?_
      rintro e w3 (⟨name, k, an3, cn3, ai3, ci3, cs3, jv, j1, hjj, hj1, hnew, hris3, ⟨rfl, A3, K3⟩, hN3, hI3, hone3, hR3⟩ | ⟨q, p, hp, ⟨rfl, ⟨d3, A3⟩, K3⟩, hR3⟩)
      · have HRL3 := Lib.hid (HRL.out.keptK hbp K3)
        have HRL5 := Lib.hid (HRL3.out.set5 (.slice an3 (ns.length + 1) cn3) (.slice ai3 (ns.length + 1) ci3))
        have HA5 := Lib.hid (show RAt (setFive w3 (w.heap.size + 1) (.int .i64 6) (.int .i64 0) (.string ⟨#[]⟩) (.slice an3 (ns.length + 1) cn3) (.slice ai3 (ns.length + 1) ci3)) bp s j1 0 (d + 1) by unfold RAt at A3 ⊢; rw [setFive_far _ _ _ _ _ _ trivial (by omega)]; exact A3)
        have HN5 := Lib.hid (own_set5 (own_le hN3 hlr) (show w.heap.size + 1 < w.heap.size + 2 by omega) (.int .i64 6) (.int .i64 0) (.string ⟨#[]⟩) (.slice an3 (ns.length + 1) cn3) (.slice ai3 (ns.length + 1) ci3))
        have HI5 := Lib.hid (own_set5 (own_le hI3 hlr) (show w.heap.size + 1 < w.heap.size + 2 by omega) (.int .i64 6) (.int .i64 0) (.string ⟨#[]⟩) (.slice an3 (ns.length + 1) cn3) (.slice ai3 (ns.length + 1) ci3))
        have HONE3 := Lib.hid hone3
        have HRIS3 := Lib.hid hris3
        have HR3 : Hid (∀ K : List Fr, K.length = d → R (L s) i ⟨.val, K⟩ = R (L s) j1 ⟨.after jv, .objv mem name :: K⟩) := fun K hK => by
          rw [HR.out K hK, hR3 mem K HMEM.out (by omega)]
        have HMEM3 : Hid (∀ x, x ∈ ns.take k ++ [name] ++ ns.drop k ↔ x ∈ (mem ++ [(name, jv)]).map (·.1)) := fun x => by
          rw [mem_placed, HMEM.out x, List.map_append, List.mem_append]
          simp [or_comm]
        have HLEN3 := Lib.hid (show (ns.take k ++ [name] ++ ns.drop k).length = ns.length + 1 by simp; omega)
        obtain ⟨⟨d0', d1', d2', d3', d4'⟩, _, _, ⟨f0, f1, f2, f3, f4⟩⟩ := HRL3.out.facts
        clear A3 K3 hN3 hI3 hone3 hR3 hris3 hnew m0 m1 m2 m3 m4 HR HRL HMEM HONE HN HI
        go_wp2_with fail
        obtain ⟨w5, hw5⟩ : ∃ w5, w5 = setFive w3 (w.heap.size + 1) (.int .i64 6) (.int .i64 0) (.string ⟨#[]⟩) (.slice an3 (ns.length + 1) cn3) (.slice ai3 (ns.length + 1) ci3) := ⟨_, rfl⟩
        rw [← hw5] at HRL5 HA5 HN5 HI5
        unfold setFive at hw5
        rw [← hw5]
        clear hw5 HRL3 d0' d1' d2' d3' d4' f0 f1 f2 f3 f4
        refine (r_blanks bp s j1 0 (d + 1) _ (by exact HA5.out) hj1 HS.out).mono ?_
        rintro e w6 ⟨j2, hb2, rfl, A6, K6⟩
        have HB2 := Lib.hid hb2
        have HA6 := Lib.hid A6
        have hj2s := hb2.2.1
        have hj12 := hb2.1
        have HRL6 := Lib.hid (HRL5.out.keptK hbp K6)
        have HN6 := Lib.hid (ownsRow_keptK HN5.out K6 (by omega))
        have HI6 := Lib.hid (ownsRow_keptK HI5.out K6 (by omega))
        have hE6 := r_is bp s j2 0 (d + 1) 125 w6 A6
        have hKR : ∀ K : List Fr, K.length = d → R (L s) i ⟨.val, K⟩ = R (L s) j2 ⟨.after jv, .objv mem name :: K⟩ := fun K hK => by
          rw [HR3.out K hK, hb2.R (blank_after _ _)]
        have HKR := Lib.hid hKR
        clear hb2 A6 hKR HR3 HRL5 HA5 HN5 HI5
        by_cases h125 : (L s)[j2]? = some 125
        · rw [show isAt s j2 125 = true from decide_eq_true h125] at hE6
          have HE6 := Lib.hid hE6
          have H125 := Lib.hid h125
          have hj2lt : j2 < s.size := by have := (List.getElem?_eq_some_iff.1 h125).1; rwa [L_len] at this
          clear hE6 h125
          go_wp2_with fail
          refine (HE6.out).mono ?_
          rintro e w7 ⟨rfl, n7, rfl⟩
          go_wp2_with fail
          go_roundg 0
          case measure => have := HG.out; simp at this; omega
          case rel =>
            refine ⟨j2, mem ++ [(name, jv)], ns.take k ++ [name] ++ ns.drop k, true, an3, cn3, ai3, ci3, cs3, by simp, rfl, by omega, hj2s, ?_, ?_, ?_, HONE3.out, HRIS3.out, HMEM3.out, by rw [HLEN3.out]; omega, HA6.out.drewN n7, fun _ => ⟨.obj (sortMem (mem ++ [(name, jv)])), hj2lt, fun K hK => ?_⟩, fun h => by cases h⟩
            · rw [HLEN3.out]; exact HRL6.out.keptK hbp ((Kept.refl _ _).drewN n7)
            · rw [HLEN3.out]; exact ownsRow_keptK HN6.out ((Kept.refl bp _).drewN n7) (by omega)
            · rw [HLEN3.out]; exact ownsRow_keptK HI6.out ((Kept.refl bp _).drewN n7) (by omega)
            · rw [HKR.out K hK, obj_close H125.out]
        · rw [show isAt s j2 125 = false from decide_eq_false h125] at hE6
          have HE6 := Lib.hid hE6
          have H125 := Lib.hid h125
          clear hE6 h125
          go_wp2_with fail
          refine (HE6.out).mono ?_
          rintro e w7 ⟨rfl, n7, rfl⟩
          go_wp2_with fail
          refine (r_takes bp s j2 (d + 1) 44 _ (by exact HA6.out.drewN n7) HS.out).mono ?_
          rintro e w8 (⟨h44, rfl, A8, K8⟩ | ⟨h44, rfl, ⟨d8, A8⟩, K8⟩)
          · have H44 := Lib.hid h44
            have HA8 := Lib.hid A8
            have HK8 := Lib.hid (Kept.trans ((Kept.refl _ _).drewN n7) K8)
            have hj2lt : j2 < s.size := by have := (List.getElem?_eq_some_iff.1 h44).1; rwa [L_len] at this
            clear h44 A8 K8
            go_wp2_with fail
            refine (r_blanks bp s (j2 + 1) 0 (d + 1) _ (by exact HA8.out) hj2lt HS.out).mono ?_
            rintro e w9 ⟨j3, hb3, rfl, A9, K9⟩
            have HB3 := Lib.hid hb3
            have HA9 := Lib.hid A9
            have HK9 := Lib.hid (HK8.out.trans K9)
            have hj3s := hb3.2.1
            have hj23 := hb3.1
            clear hb3 A9 K9
            go_wp2_with fail
            go_roundg (s.size - j3 + 1)
            case measure => have := HG.out; simp at this; omega
            case rel =>
              refine ⟨j3, mem ++ [(name, jv)], ns.take k ++ [name] ++ ns.drop k, false, an3, cn3, ai3, ci3, cs3, by simp, rfl, by omega, hj3s, ?_, ?_, ?_, HONE3.out, HRIS3.out, HMEM3.out, by rw [HLEN3.out]; omega, HA9.out, (fun h => by cases h), fun _ => ⟨HB3.out.2.2.2, fun K hK => ?_⟩⟩
              · rw [HLEN3.out]; exact HRL6.out.keptK hbp HK9.out
              · rw [HLEN3.out]; exact ownsRow_keptK HN6.out HK9.out (by omega)
              · rw [HLEN3.out]; exact ownsRow_keptK HI6.out HK9.out (by omega)
              · rw [HKR.out K hK, obj_comma H44.out, HB3.out.R (blank_key _)]
          · have H44 := Lib.hid h44
            have HA8 := Lib.hid A8
            have HRL8 := Lib.hid (HRL6.out.keptK hbp (Kept.trans ((Kept.refl _ _).drewN n7) K8))
            obtain ⟨⟨d0, d1, d2, d3, d4⟩, ⟨e0, e1, e2, e3, e4⟩, ⟨g0, g1, g2, g3, g4⟩, _⟩ := HRL8.out.facts
            clear h44 A8 K8
            go_wp2_with fail
            refine bodyPost_ret (by simp [results, Tryz.results53, go_sem, e0, e1, e2, e3, e4]; try rfl) rfl ?_
            obtain ⟨q1, q2⟩ := HRL8.out.five hbp HA8.out (.int .i64 6) (.int .i64 0) (.string ⟨#[]⟩) (.slice an3 (ns.length + 1) cn3) (.slice ai3 (ns.length + 1) ci3)
            refine .inr ⟨6, 0, [], an3, ns.length + 1, cn3, ai3, ns.length + 1, ci3, 40, j2, hj2s, ⟨rfl, ⟨_, q2⟩, q1⟩, fun K hK => ?_⟩
            rw [HKR.out K hK, obj_bad fun c hc => ⟨HB2.out.2.2.2 c hc, fun e => H44.out (by rw [hc, e]), fun e => H125.out (by rw [hc, e])⟩]
            rfl
      · have HRF : Hid (∀ K : List Fr, K.length = d → R (L s) i ⟨.val, K⟩ = .bad q p) := fun K hK => by
          rw [HR.out K hK, hR3 mem K HMEM.out (by omega)]
        have HRL3 := Lib.hid (HRL.out.keptK hbp K3)
        have HRL5 := Lib.hid (HRL3.out.set5 (.slice an ns.length cn) (.slice ai ns.length ci))
        have HA5 := Lib.hid (show RAt (setFive w3 (w.heap.size + 1) (.int .i64 6) (.int .i64 0) (.string ⟨#[]⟩) (.slice an ns.length cn) (.slice ai ns.length ci)) bp s p q d3 by unfold RAt at A3 ⊢; rw [setFive_far _ _ _ _ _ _ trivial (by omega)]; exact A3)
        obtain ⟨⟨d0', d1', d2', d3', d4'⟩, ⟨e0, e1, e2, e3, e4⟩, ⟨g0, g1, g2, g3, g4⟩, ⟨f0, f1, f2, f3, f4⟩⟩ := HRL3.out.facts
        clear A3 K3 hR3 m0 m1 m2 m3 m4
        go_wp2_with fail
        refine bodyPost_ret (by simp [results, Tryz.results53, go_sem, e0, e1, e2, e3, e4]; try rfl) rfl ?_
        obtain ⟨q1, q2⟩ := HRL5.out.five hbp HA5.out (.int .i64 6) (.int .i64 0) (.string ⟨#[]⟩) (.slice an ns.length cn) (.slice ai ns.length ci)
        exact .inr ⟨6, 0, [], an, ns.length, cn, ai, ns.length, ci, q, p, hp, ⟨rfl, ⟨_, q2⟩, q1⟩, HRF.out⟩

end Jot
end Go.Proofs.YthgcnmdnjfajbaaGreatDoor
