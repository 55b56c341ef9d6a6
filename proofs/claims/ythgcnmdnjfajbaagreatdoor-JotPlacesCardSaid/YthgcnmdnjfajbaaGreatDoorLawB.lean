/- Walk of JotPlaces: any two texts. Conditions: none. -/
/- JotPlaces: the row and the tied card: the law returns true for every two texts, and they read as they did. Conditions: none but the row's own. -/
import Derived.Test.YthgcnmdnjfajbaaGreatDoorKnB
import Derived.Test.YthgcnmdnjfajbaaGreatDoorCards
import Derived.Test.YthgcnmdnjfajbaaGreatDoorTie
import Derived.ProofKit
import Derived.ChangeMaps5
import Derived.OpenShut
import Derived.LaidMore
import Derived.Lay
import Derived.SevenTiedAt
import Derived.Stop.Joined
namespace Go.Proofs.YthgcnmdnjfajbaaGreatDoor
open Go.RowKit
namespace Jot

set_option maxRecDepth 100000 in
set_option maxHeartbeats 2000000 in
theorem places_out (s more : ByteArray) (h : 2147483647 < (s.size : Int) ∨ 2147479646 < (more.size : Int)) (w : World) : Calls Tryz.prog 3 #[.string s, .string more] w (Made (.bool true) w) := by
  go_enter Tryz.func3, Tryz.ntmps3
  by_cases h1 : 2147483647 < (s.size : Int)
  · go_wp2_with fail
    go_ret
    exact ⟨rfl, Below.refl _ _⟩
  · have h2 : 2147479646 < (more.size : Int) := h.resolve_left h1
    have h1 : (s.size : Int) ≤ 2147483647 := Int.not_lt.1 h1
    clear h
    go_wp2_with fail
    go_ret
    exact ⟨rfl, Below.refl _ _⟩

set_option maxRecDepth 100000 in
set_option maxHeartbeats 2000000 in
theorem places_long (s more : ByteArray) (h1 : (s.size : Int) ≤ 2147483647) (h2 : (more.size : Int) ≤ 2147479646) (h3 : 4000 < s.size) (w : World) : Calls Tryz.prog 3 #[.string s, .string more] w (Made (.bool true) w) := by
  have h3' : 4000 < (s.size : Int) := by omega
  have H3 := Lib.hid h3
  clear h3
  go_enter Tryz.func3, Tryz.ntmps3
  go_wp2_with fail
  refine (known_any _).mono ?_
  rintro e w1 ⟨rfl, K1⟩
  go_wp2_with fail
  refine (parse_far s H3.out _).mono ?_
  rintro e w2 ⟨n, t, an, ln, cn, ai, li, ci, rfl, K2⟩
  have HK := Lib.hid ((K1.trans (K2.mono K1.size)).alloc (Nat.le_trans K1.size K2.size) (.cells #[.int .i64 0, .int .i64 n, .string ⟨t.toArray⟩, .slice an ln cn, .slice ai li ci] 26 (0, 0)))
  clear K1 K2
  unfold str
  go_wp2_with fail
  go_ret
  exact ⟨rfl, HK.out⟩

set_option maxRecDepth 100000 in
set_option maxHeartbeats 2000000 in
theorem places_good (s more : ByteArray) (h1 : (s.size : Int) ≤ 2147483647) (h2 : (more.size : Int) ≤ 2147479646) (h3 : (s.size : Int) ≤ 4000) (v : JV) (hp : parse (L s) = (v, 0, 0)) (w : World) : Calls Tryz.prog 3 #[.string s, .string more] w (Made (.bool true) w) := by
  have HP := Lib.hid hp
  clear hp
  go_enter Tryz.func3, Tryz.ntmps3
  go_wp2_with fail
  refine (known_any _).mono ?_
  rintro e w1 ⟨rfl, K1⟩
  go_wp2_with fail
  refine (parse_two s v 0 0 0 0 HP.out rfl rfl _).mono ?_
  rintro e w2 ⟨k, n, t, an, ln, cn, ai, li, ci, rfl, K2⟩
  have HK := Lib.hid ((K1.trans (K2.mono K1.size)).alloc (Nat.le_trans K1.size K2.size) (.cells #[.int .i64 k, .int .i64 n, .string ⟨t.toArray⟩, .slice an ln cn, .slice ai li ci] 26 (0, 0)))
  clear K1 K2
  unfold str
  go_wp2_with fail
  go_ret
  exact ⟨rfl, HK.out⟩

set_option maxRecDepth 100000 in
set_option maxHeartbeats 4000000 in
theorem places_bad (s more : ByteArray) (h1 : (s.size : Int) ≤ 2147483647) (h2 : (more.size : Int) ≤ 2147479646) (h3 : (s.size : Int) ≤ 4000) (er p : Nat) (hp : parse (L s) = (.null, er, p)) (hR : Refused (L s) er p) (w : World) : Calls Tryz.prog 3 #[.string s, .string more] w (Made (.bool true) w) := by
  have HP := Lib.hid hp
  have HR := Lib.hid hR
  obtain ⟨hne, hle, h40, st, hrun, _⟩ := hR
  rw [L_len] at hle h40
  have HRUN := Lib.hid (show runTo start (L (s.extract 0 p)) = some st by rw [L_take]; exact hrun)
  have hsz : (s.extract 0 p).size = p := by rw [← L_len, L_take, List.length_take, L_len, Nat.min_eq_left hle]
  have HSZ := Lib.hid hsz
  have HNE := Lib.hid hne
  have g0 : ((er : Int) == 0) = false := beq_eq_false_iff_ne.2 (fun e => hne (Int.ofNat.inj e))
  have hle' : (p : Int) ≤ (s.size : Int) := by omega
  have hp0 : (0 : Int) ≤ (p : Int) := by omega
  have h40' : (p : Int) = (s.size : Int) → ((er : Int) != 40) = false := fun h => by rw [h40 (by omega)]; rfl
  clear hp hne hrun hsz h40
  go_enter Tryz.func3, Tryz.ntmps3
  go_wp2_with fail
  refine (known_any _).mono ?_
  rintro e w1 ⟨rfl, K1⟩
  go_wp2_with fail
  refine (parse_two s .null er p er p HP.out rfl rfl _).mono ?_
  rintro e w2 ⟨k, n, t, an, ln, cn, ai, li, ci, rfl, K2⟩
  have HK := Lib.hid ((K1.trans (K2.mono K1.size)).alloc (Nat.le_trans K1.size K2.size) (.cells #[.int .i64 k, .int .i64 n, .string ⟨t.toArray⟩, .slice an ln cn, .slice ai li ci] 26 (0, 0)))
  clear K1 K2
  unfold str
  go_upto_region 9 with fail
  generalize w2.alloc (.cells #[.int .i64 k, .int .i64 n, .string ⟨t.toArray⟩, .slice an ln cn, .slice ai li ci] 26 (0, 0)) = W2 at *
  by_cases hpe : (p : Int) = (s.size : Int)
  · have g1 := h40' hpe
    obtain rfl : p = s.size := by omega
    clear h40' HSZ HR hpe
    have HRUN := Lib.hid (show runTo start (L s) = some st by have h := HRUN.out; rwa [L_take, ← L_len, List.take_length] at h)
    clear HP
    go_upto_region 11 with fail
    go_region_held3 (fun _ => True) (trivial)
      (first | ((with_reducible refine (r_rest s (by omega) st HRUN.out _).mono ?_); rintro e w3 ⟨out, st', rfl, K3, hrun', hfin', hlen⟩; have HRUN' := Lib.hid hrun'; have HFIN' := Lib.hid hfin'; have HK3 := Lib.hid (HK.out.trans (((Below.refl W2.heap.size W2).drew.trans K3.below).mono HK.out.size)); clear K3 hrun' hfin'; have hcat : ¬ 9223372036854775807 < s.size + out.length := (by omega); unfold str))
    all_goals
      have hts := cat_size s out
      by_cases hlt : s.size + out.length ≤ 4000
      · obtain ⟨v, hv⟩ := parse_fin (l := L s ++ out) (by rw [← cat_is, L_len, hts]; omega) HRUN'.out HFIN'.out
        have HV := Lib.hid (show parse (L (s ++ ⟨out.toArray⟩)) = (v, 0, 0) by rw [cat_is]; exact hv)
        have hti : (((s ++ ⟨out.toArray⟩ : ByteArray).size : Nat) : Int) ≤ 4000 := by rw [hts]; omega
        clear hts hv
        go_wp2_with fail
        refine (parse_two _ v 0 0 0 0 HV.out rfl rfl _).mono ?_
        rintro e w4 ⟨k4, n4, t4, an4, ln4, cn4, ai4, li4, ci4, rfl, K4⟩
        have HK4 := Lib.hid ((HK3.out.trans (K4.mono HK3.out.size)).alloc (Nat.le_trans HK3.out.size K4.size) (.cells #[.int .i64 k4, .int .i64 n4, .string ⟨t4.toArray⟩, .slice an4 ln4 cn4, .slice ai4 li4 ci4] 26 (0, 0)))
        clear K4
        unfold str
        go_wp2_with fail
        go_ret
        exact ⟨rfl, HK4.out⟩
      · have HV := Lib.hid (show 4000 < (s ++ ⟨out.toArray⟩ : ByteArray).size by rw [hts]; omega)
        have hti : 4000 < (((s ++ ⟨out.toArray⟩ : ByteArray).size : Nat) : Int) := by rw [hts]; omega
        clear hts
        go_wp2_with fail
        refine (parse_far _ HV.out _).mono ?_
        rintro e w4 ⟨n4, t4, an4, ln4, cn4, ai4, li4, ci4, rfl, K4⟩
        have HK4 := Lib.hid ((HK3.out.trans (K4.mono HK3.out.size)).alloc (Nat.le_trans HK3.out.size K4.size) (.cells #[.int .i64 0, .int .i64 n4, .string ⟨t4.toArray⟩, .slice an4 ln4 cn4, .slice ai4 li4 ci4] 26 (0, 0)))
        clear K4
        unfold str
        go_wp2_with fail
        go_ret
        exact ⟨rfl, HK4.out⟩
  · have hplt : (p : Int) < (s.size : Int) := by omega
    clear h40' hpe
    have HL2 := Lib.hid (show L (s.extract 0 (p + 1) ++ more) = (L s).take (p + 1) ++ L more by rw [L_cat, L_take])
    have HS2 := Lib.hid (show (s.extract 0 (p + 1) ++ more : ByteArray).size = p + 1 + more.size by rw [← L_len, HL2.out, List.length_append, List.length_take, L_len, L_len, Nat.min_eq_left (by omega)])
    clear HP
    go_upto_region 11 with fail
    go_region_held3 (fun _ => True) (trivial)
      (first | ((with_reducible refine (r_rest (s.extract 0 p) (by rw [HSZ.out]; omega) st HRUN.out _).mono ?_); rintro e w3 ⟨out, st', rfl, K3, hrun', hfin', hlen⟩; have HRUN' := Lib.hid hrun'; have HFIN' := Lib.hid hfin'; have HK3 := Lib.hid (HK.out.trans (((Below.refl W2.heap.size W2).drew.trans K3.below).mono HK.out.size)); clear K3 hrun' hfin'; have hcat : ¬ 9223372036854775807 < p + out.length := (by omega); unfold str))
    all_goals
      have hts := cat_size (s.extract 0 p) out
      by_cases hlt : p + out.length ≤ 4000
      · obtain ⟨v, hv⟩ := parse_fin (l := L (s.extract 0 p) ++ out) (by rw [← cat_is, L_len, hts]; rw [HSZ.out]; omega) HRUN'.out HFIN'.out
        have HV := Lib.hid (show parse (L ((s.extract 0 p) ++ ⟨out.toArray⟩)) = (v, 0, 0) by rw [cat_is]; exact hv)
        have hti : ((((s.extract 0 p) ++ ⟨out.toArray⟩ : ByteArray).size : Nat) : Int) ≤ 4000 := by rw [hts]; rw [HSZ.out]; omega
        clear hts hv
        go_wp2_with fail
        refine (parse_two _ v 0 0 0 0 HV.out rfl rfl _).mono ?_
        rintro e w4 ⟨k4, n4, t4, an4, ln4, cn4, ai4, li4, ci4, rfl, K4⟩
        have HK4 := Lib.hid ((HK3.out.trans (K4.mono HK3.out.size)).alloc (Nat.le_trans HK3.out.size K4.size) (.cells #[.int .i64 k4, .int .i64 n4, .string ⟨t4.toArray⟩, .slice an4 ln4 cn4, .slice ai4 li4 ci4] 26 (0, 0)))
        clear K4
        unfold str
        go_wp2_with fail
        by_cases hl2 : p + 1 + more.size ≤ 4000
        · have HV2 := Lib.hid (show parse (L (s.extract 0 (p + 1) ++ more)) = (.null, er, p) by rw [HL2.out]; exact parse_stuck (L more) HR.out (by rw [L_len]; omega) (by rw [← HL2.out, L_len, HS2.out]; exact hl2))
          have hti2 : (((s.extract 0 (p + 1) ++ more : ByteArray).size : Nat) : Int) ≤ 4000 := by rw [HS2.out]; omega
          refine (parse_two _ .null er p er p HV2.out rfl rfl _).mono ?_
          rintro e w5 ⟨k5, n5, t5, an5, ln5, cn5, ai5, li5, ci5, rfl, K5⟩
          have HK5 := Lib.hid ((HK4.out.trans (K5.mono HK4.out.size)).alloc (Nat.le_trans HK4.out.size K5.size) (.cells #[.int .i64 k5, .int .i64 n5, .string ⟨t5.toArray⟩, .slice an5 ln5 cn5, .slice ai5 li5 ci5] 26 (0, 0)))
          clear K5
          unfold str
          go_wp2_with fail
          go_ret
          exact ⟨rfl, HK5.out⟩
        · have HV2 := Lib.hid (show 4000 < (s.extract 0 (p + 1) ++ more : ByteArray).size by rw [HS2.out]; omega)
          have hti2 : 4000 < (((s.extract 0 (p + 1) ++ more : ByteArray).size : Nat) : Int) := by rw [HS2.out]; omega
          refine (parse_far _ HV2.out _).mono ?_
          rintro e w5 ⟨n5, t5, an5, ln5, cn5, ai5, li5, ci5, rfl, K5⟩
          have HK5 := Lib.hid ((HK4.out.trans (K5.mono HK4.out.size)).alloc (Nat.le_trans HK4.out.size K5.size) (.cells #[.int .i64 0, .int .i64 n5, .string ⟨t5.toArray⟩, .slice an5 ln5 cn5, .slice ai5 li5 ci5] 26 (0, 0)))
          clear K5
          unfold str
          go_wp2_with fail
          go_ret
          exact ⟨rfl, HK5.out⟩
      · have HV := Lib.hid (show 4000 < ((s.extract 0 p) ++ ⟨out.toArray⟩ : ByteArray).size by rw [hts]; rw [HSZ.out]; omega)
        have hti : 4000 < ((((s.extract 0 p) ++ ⟨out.toArray⟩ : ByteArray).size : Nat) : Int) := by rw [hts]; rw [HSZ.out]; omega
        clear hts
        go_wp2_with fail
        refine (parse_far _ HV.out _).mono ?_
        rintro e w4 ⟨n4, t4, an4, ln4, cn4, ai4, li4, ci4, rfl, K4⟩
        have HK4 := Lib.hid ((HK3.out.trans (K4.mono HK3.out.size)).alloc (Nat.le_trans HK3.out.size K4.size) (.cells #[.int .i64 0, .int .i64 n4, .string ⟨t4.toArray⟩, .slice an4 ln4 cn4, .slice ai4 li4 ci4] 26 (0, 0)))
        clear K4
        unfold str
        go_wp2_with fail
        by_cases hl2 : p + 1 + more.size ≤ 4000
        · have HV2 := Lib.hid (show parse (L (s.extract 0 (p + 1) ++ more)) = (.null, er, p) by rw [HL2.out]; exact parse_stuck (L more) HR.out (by rw [L_len]; omega) (by rw [← HL2.out, L_len, HS2.out]; exact hl2))
          have hti2 : (((s.extract 0 (p + 1) ++ more : ByteArray).size : Nat) : Int) ≤ 4000 := by rw [HS2.out]; omega
          refine (parse_two _ .null er p er p HV2.out rfl rfl _).mono ?_
          rintro e w5 ⟨k5, n5, t5, an5, ln5, cn5, ai5, li5, ci5, rfl, K5⟩
          have HK5 := Lib.hid ((HK4.out.trans (K5.mono HK4.out.size)).alloc (Nat.le_trans HK4.out.size K5.size) (.cells #[.int .i64 k5, .int .i64 n5, .string ⟨t5.toArray⟩, .slice an5 ln5 cn5, .slice ai5 li5 ci5] 26 (0, 0)))
          clear K5
          unfold str
          go_wp2_with fail
          go_ret
          exact ⟨rfl, HK5.out⟩
        · have HV2 := Lib.hid (show 4000 < (s.extract 0 (p + 1) ++ more : ByteArray).size by rw [HS2.out]; omega)
          have hti2 : 4000 < (((s.extract 0 (p + 1) ++ more : ByteArray).size : Nat) : Int) := by rw [HS2.out]; omega
          refine (parse_far _ HV2.out _).mono ?_
          rintro e w5 ⟨n5, t5, an5, ln5, cn5, ai5, li5, ci5, rfl, K5⟩
          have HK5 := Lib.hid ((HK4.out.trans (K5.mono HK4.out.size)).alloc (Nat.le_trans HK4.out.size K5.size) (.cells #[.int .i64 0, .int .i64 n5, .string ⟨t5.toArray⟩, .slice an5 ln5 cn5, .slice ai5 li5 ci5] 26 (0, 0)))
          clear K5
          unfold str
          go_wp2_with fail
          go_ret
          exact ⟨rfl, HK5.out⟩

theorem places_any (s more : ByteArray) (w : World) : Calls Tryz.prog 3 #[.string s, .string more] w (Made (.bool true) w) := by
  by_cases h1 : 2147483647 < (s.size : Int)
  · exact places_out s more (.inl h1) w
  by_cases h2 : 2147479646 < (more.size : Int)
  · exact places_out s more (.inr h2) w
  have h1' := Int.not_lt.1 h1
  have h2' := Int.not_lt.1 h2
  by_cases h3 : 4000 < s.size
  · exact places_long s more h1' h2' h3 w
  have h3' : (s.size : Int) ≤ 4000 := by omega
  rcases parse_cases (L s) (by rw [L_len]; omega) with ⟨v, hv⟩ | ⟨er, p, hp, hR⟩
  · exact places_good s more h1' h2' h3' v hv w
  · exact places_bad s more h1' h2' h3' er p hp hR w

#print axioms places_any

end Jot
end Go.Proofs.YthgcnmdnjfajbaaGreatDoor

namespace Go.Proofs.YthgcnmdnjfajbaaGreatDoor
open Go.ChangeShapes Go.WideShapes Go.ChangeAt Go.RowKit Go.WideMaps Go.ChangeMaps

theorem jp_own : ownKnob Tryz.prog.godebug = none := by kernel_rfl

/-- The end of a row whose arguments hold no places: the call left what was there. -/
theorem post_free {H : Type} {enc : TypeId × Value → H} {P : Program} {f : Func} {s : ChangeSpec} {apart fresh handsOn again : Bool} {W W' : World} {args : Array Value} {v : Value} {ds gs : List (DataW H)}
    (hW : DataW.Whole enc P f.params.toList s.vars apart W args.toList ds gs [])
    (hres : ∀ (b : Nat) (sp : Nat → Bool) (hd : Bool), DataW.TrodAll enc P W' b sp hd f.resultTypes.toList (v.resultList f.resultTypes.size) (s.fn H (ds ++ gs)).results [])
    (hargs : ∀ sp : Nat → Bool, DataW.TrodAll enc P W' 0 sp true f.params.toList args.toList (s.fn H (ds ++ gs)).args [])
    (hvars : ∀ sp : Nat → Bool, DataW.TrodVars enc P W' sp s.vars (s.fn H (ds ++ gs)).vars [])
    (hb : Below W.heap.size W W')
    (hok : ∀ (j : Nat) (t : TypeId) (r : Value), f.resultTypes[j]? = some t → (v.resultList f.resultTypes.size)[j]? = some r → Value.okWide P W' .any 0 t r) :
    s.post enc P f apart fresh handsOn again W args v W' := by
  refine ⟨ds, gs, [], [], [], [], hW, hres _ _ _, hargs _, hvars _, World.keptBut_mono (fun p hp => nomatch hp) (hb.frame (· ∈ [])), fun _ => ?_⟩
  exact ⟨hok, _, _, [], ⟨[], [], trodAll_append (hargs _) (hres _ _ _), hvars _, rfl, fun b off hp => (nomatch hp), fun _ => List.Pairwise.nil⟩, fun p hp _ => (nomatch hp)⟩

set_option maxRecDepth 100000 in
theorem jp_lifted (os : Os) (started : os.Started) (H : Type) (enc : TypeId × Value → H) :
    ReturnsInHanded {} Tryz.checked os 3 .any (fun w args => (Rows.jotPlacesSpec.pre enc Tryz.prog Tryz.f3 Rows.jotPlacesRow.domain false w args ∧ laidMetH Tryz.prog Rows.jotPlacesRow.laid w) ∧ sizedMet enc Tryz.prog Tryz.f3 (OpenSpec.ofChange Rows.jotPlacesSpec) false w args)
      (Rows.jotPlacesSpec.post enc Tryz.prog Tryz.f3 false true false false) := by
  refine returnsInHanded_of_change_and (C := Tryz.checked) (X := fun w _ => laidMetH Tryz.prog Rows.jotPlacesRow.laid w) (fun _ _ _ hh h => h.of_heap hh) jp_own started (by kernel_rfl) Tryz.func3
    (ChangeSpec.witness_shaped (enc := enc) (C := Tryz.checked) (os := os) (X := fun w _ => laidMetH Tryz.prog Rows.jotPlacesRow.laid w) false (World.laidAll Tryz.prog os Rows.jotPlacesRow.laid) #[.string ⟨#[]⟩, .string ⟨#[]⟩] 8 (World.laidAll_os _ _ _)
      (World.shaped_of_ZipB (by kernel_rfl) (by kernel_rfl)) (by kernel_rfl) (by kernel_rfl) (by kernel_rfl)
      (by rw [MakeChecks.laidMetH_plain _ _ _ (by kernel_rfl)]; exact laidMet_laidAll _ (by kernel_rfl) (by kernel_rfl))) ?_
  intro W base args ds gs before hval0 hW _ _ _ _
  have hval : ∀ (j : Nat) t v, Tryz.f3.params[j]? = some t → args[j]? = some v → Value.okWide Tryz.prog W .any base t v := hval0
  have hW' := hW
  obtain ⟨p, q, hA0, hV, rfl, _, _⟩ := hW
  have hA : DataW.TrodAll enc Tryz.prog W 0 (fun _ => true) true Tryz.f3.params.toList args.toList ds p := hA0
  rw [Tryz.params3] at hA hval
  obtain ⟨v0, v1, d0, d1, p0, p1, rfl, rfl, rfl, h0, h1⟩ := trodAll_two hA
  obtain ⟨rfl, rfl⟩ := trodVars_none hV
  obtain ⟨s, rfl, rfl, rfl, hs⟩ := open_string Tryz.underlying9 (hval 0 9 v0 rfl rfl) h0
  obtain ⟨more, rfl, rfl, rfl, hm⟩ := open_string Tryz.underlying9 (hval 1 9 v1 rfl rfl) h1
  simp only [List.append_nil] at hW'
  refine (Jot.places_any s more W).mono fun e W' ⟨he, hb⟩ => ?_
  subst he
  exact ⟨_, rfl, post_free hW' (fun _ _ _ => trodAll_mk1 (shut_bool Tryz.underlying4 _)) (fun sp => trodAll_mk2 (shut_string Tryz.underlying9 hs) (shut_string Tryz.underlying9 hm)) (fun _ => rfl) hb (ok_one (by kernel_rfl) rfl (okWide_bool_mk Tryz.underlying4 _))⟩

theorem jp_holds : Rows.JotPlacesSaid :=
  OpenClaim.holds_of_wide 3 Tryz.f3 rfl rfl rfl rfl rfl rfl rfl ⟨rfl, rfl, rfl, rfl, rfl⟩ rfl rfl rfl rfl rfl (by kernel_rfl) Tryz.func3 (by kernel_rfl)
    (of_decide_eq_true (by kernel_rfl)) (by unfold Func.isWrapper; first | (rw [if_pos (by decide +kernel)]; kernel_rfl) | (rw [if_neg (by decide +kernel)]; exact ⟨rfl, rfl⟩))
    (fun os started H enc _ => jp_lifted os started H enc)

theorem jotPlaces_card_holds : Rows.JotPlacesCardSaid :=
  Claim7.holds_tied_plain_at .later [] [.data, .data, .data, .data, .pinned] true (true, "e34dd1f2400c87be70c1665b6390df386157abce75dad0577b1fb6a7296013cf") true
    jp_holds (fun _ h => by cases h) (by kernel_rfl) (fun _ h => by cases h) jotPlaces_row_tie rfl ⟨rfl, rfl⟩ (by kernel_rfl) rfl
    (fun f fn hf hfn => by
      obtain rfl : f = 3 := Option.some.inj ((show Tryz.prog.funcNamed "latchkey/latchkeylaw04.JotPlaces" = some 3 by kernel_rfl).symm.trans hf) |>.symm
      obtain rfl : fn = Tryz.f3 := (Option.some.inj (Tryz.func3.symm.trans hfn)).symm
      exact ⟨by kernel_rfl, fun j t ht => by
        rw [Tryz.params3] at ht
        have hm : t ∈ [9] := by simpa using Array.mem_of_getElem? ht
        have hall : ([9].all fun u => !Tryz.prog.wantsStandIn u) = true := by kernel_rfl
        exact (show Tryz.prog.wantsStandIn t = false by simpa using List.all_eq_true.1 hall t hm)⟩)
    (by kernel_rfl)

#print axioms jotPlaces_card_holds

end Go.Proofs.YthgcnmdnjfajbaaGreatDoor
