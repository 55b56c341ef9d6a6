/- Walk of package jot: object, over what value comes to one deeper. Conditions: a parser that stands at a brace. -/
import Derived.Test.YthgcnmdnjfajbaaGreatDoorJotWalkL
import Derived.Test.YthgcnmdnjfajbaaGreatDoorJotWalkM
import Derived.Test.YthgcnmdnjfajbaaGreatDoorJotWalkJ
namespace Go.Proofs.YthgcnmdnjfajbaaGreatDoor
open Go.RowKit
namespace Jot
open Go.Maps (Keyed string_keyed)
open Go.WideMaps (keyOf_string_mk)

theorem infoMem : (Tryz.prog.info? 81).map (fun i => (i.zero, i.size, i.bytes)) = some (some (.agg #[.string ⟨#[]⟩, .nilIface]), 2, 32) := by kernel_rfl

theorem news_two {X : World} {k : Nat} {a b : Value} {t : TypeId} (h : k = X.heap.size) : ∀ j u, [a, b][j]? = some u → (X.alloc (.cells #[a, b] t)).cell? ((⟨k, 0, none⟩ : Addr).add j) = some u := by
  subst h
  intro j u hj
  match j, hj with
  | 0, hj => simp at hj; subst hj; rw [Addr.add_lit]; show (match (X.alloc (.cells #[a, b] t)).heap[X.heap.size]? with | some (.cells c _ _) => _ | _ => _) = _; rw [heap_alloc_new]; rfl
  | 1, hj => simp at hj; subst hj; rw [Addr.add_lit]; show (match (X.alloc (.cells #[a, b] t)).heap[X.heap.size]? with | some (.cells c _ _) => _ | _ => _) = _; rw [heap_alloc_new]; rfl

theorem map_size_le {w : World} {b n : Nat} {D : DataW Unit} (h : w.ownsMap Tryz.prog 9 (plainElem Tryz.prog 3) b n D) : Maps.size D ≤ n := by
  obtain ⟨es, cl, _, _, hs, rfl⟩ := h
  have := length_read (R0 := plainElem (H := Unit) Tryz.prog 3) (P := Tryz.prog) (k := 9) es
  simp only [Maps.size]
  omega

/-- The map holds just these names. -/
def Holding (w : World) (b n : Nat) (ns : List Bs) : Prop :=
  ∃ D : DataW Unit, w.ownsMap Tryz.prog 9 (plainElem Tryz.prog 3) b n D ∧ ∀ s : Bs, Maps.has D (.string s) = decide (s ∈ ns)

theorem Holding.kept {w w' : World} {bp b n : Nat} {ns : List Bs} (h : Holding w b n ns) (hk : Kept bp w w') (hb : b ≠ bp) : Holding w' b n ns := by
  obtain ⟨D, ⟨es, cl, hh, hr⟩, hs⟩ := h
  exact ⟨D, ⟨es, cl, (hk.block b (Array.getElem?_eq_some_iff.1 hh).1 hb).trans hh, hr⟩, hs⟩

theorem Holding.lt {w : World} {b n : Nat} {ns : List Bs} (h : Holding w b n ns) : b < w.heap.size := by
  obtain ⟨D, ⟨es, cl, hh, hr⟩, hs⟩ := h
  exact (Array.getElem?_eq_some_iff.1 hh).1

theorem Holding.grown {w w' : World} {b n : Nat} {ns : List Bs} {row : Option Nat} (h : Holding w b n ns) (hg : w.grownBy w' row) (hb : some b ≠ row) : Holding w' b n ns := by
  obtain ⟨D, ho, hs⟩ := h
  exact ⟨D, ho.kept hg hb, hs⟩

/-- A row of cells is no map. -/
theorem Holding.noRow {w : World} {b n : Nat} {ns : List Bs} (h : Holding w b n ns) {B : Nat} {e : TypeId} {size : Nat} {v : Value} {m : Nat} {xs : List Value} (ho : w.ownsRow B e size v m xs) : some b ≠ v.ownBlock := by
  obtain ⟨D, ⟨es, cl, hh, hr⟩, hs⟩ := h
  rcases ho.2 with ⟨rfl, _⟩ | ⟨g, cap, cur, rfl, _, hg, _⟩
  · simp [Value.ownBlock]
  · intro e'
    simp [Value.ownBlock] at e'
    subst e'
    rw [hh] at hg; cases hg

def ObjAt (s : ByteArray) (i d j : Nat) (mems : List (Bs × JV)) (more : Bool) : Prop :=
  ∀ K : List Fr, K.length = d → R (L s) i ⟨.val, K⟩ = if more then R (L s) j ⟨.key, .obj mems :: K⟩ else R (L s) j ⟨.after (.obj (sortMem mems)), K⟩

set_option maxRecDepth 100000 in
set_option maxHeartbeats 1000000 in
theorem object_deep (bp : Nat) (s : ByteArray) (i : Nat) (w : World) (h : At w bp s i 16) (hi : i < s.size) (hc : (L s)[i]? = some 123) :
    Calls Tryz.prog 25 #[.pointer (some ⟨bp, 0, none⟩)] w (ValPost bp s w i 16) := by
  have HO := Lib.hid (open_deep bp s i w h)
  have HC := Lib.hid hc
  clear h hc
  go_enter Tryz.func25, Tryz.ntmps25
  go_wp2_with fail
  refine (HO.out).mono ?_
  rintro e w' ⟨rfl, K1⟩
  go_wp2_with fail
  exact ⟨rfl, .inr ⟨41, i, by omega, ⟨rfl, K1⟩, fun K hK => obj_deep HC.out K hK⟩⟩

set_option maxRecDepth 100000 in
set_option maxHeartbeats 1000000 in
theorem object_any (bp : Nat) (s : ByteArray) (i d : Nat) (w : World) (h : At w bp s i d) (hi : i < s.size) (hs : s.size ≤ 4000) (hc : (L s)[i]? = some 123) (hd : d < 16) (hval : ValueAt s (d + 1)) :
    Calls Tryz.prog 25 #[.pointer (some ⟨bp, 0, none⟩)] w (ValPost bp s w i d) := by
  have HO := Lib.hid (open_ok bp s i d w h hd hi hs)
  have HC := Lib.hid hc
  have HV := Lib.hid hval
  have hbp := h.lt
  clear h hc hval
  have hmm := @run_makeMap Tryz.prog
  go_enter Tryz.func25, Tryz.ntmps25
  go_wp2_with fail
  refine (HO.out).mono ?_
  rintro e w1 ⟨j0, hj0, rfl, A1, K1⟩
  have HJ := Lib.hid hj0
  have hj0s := hj0.2.1
  have hij0 := hj0.1
  clear hj0
  go_wp2_with fail
  refine (empty_any bp s j0 d 125 _ (by exact A1) hj0s hs (by omega)).mono ?_
  rintro e w2 (⟨b, hb, hbc, rfl, A2, K2⟩ | ⟨b, hb, hbc, rfl, A2, K2⟩ | ⟨he, rfl, K2⟩)
  · have HB := Lib.hid hb
    have HBC := Lib.hid hbc
    clear hb hbc
    go_wp2_with fail
    go_ret
    have hlt : j0 < s.size := by have := (List.getElem?_eq_some_iff.1 HB.out).1; rwa [L_len] at this
    refine .inl ⟨_, _, .obj [], j0 + 1, by omega, by omega, ⟨rfl, A2, K1.trans K2⟩, ?_, fun K hK => ?_⟩
    · exact ⟨_, [], rfl, by simp, ⟨World.ownsRow_nil _ _ _ _, fun g hg => by simp [Value.ownBlock] at hg⟩, rfl⟩
    · have e125 : b = 125 := eq_of_toNat (by rw [HBC.out]; rfl)
      rw [obj_open HC.out K (by omega), HJ.out.R (blank_obj0 _), obj0_close (by rw [HB.out, e125])]
  · have HL : Hid (ObjAt s i d j0 [] true) := by
      intro K hK
      have e125 : b ≠ 125 := fun e => hbc (by rw [e]; rfl)
      rw [obj_open HC.out K (by omega), HJ.out.R (blank_obj0 _), obj0_key hb (HJ.out.2.2.2 b hb) e125]
      rfl
    clear hb hbc
    obtain ⟨i0, hi0, hz0, hz1, hz2⟩ := info_parts infoMem
    have H0 := Lib.hid hi0
    clear hi0
    have hw12 := K1.size
    have hw23 := K2.size
    go_wp2_with fail
    go_loopg [3, 5] (s.size - j0 + 1) (fun g v m wr => ∃ (j : Nat) (mems : List (Bs × JV)) (vs : List Value) (mb : Bool), g = (if mb then s.size - j + 1 else 0) ∧ m = .bool mb ∧ i < j ∧ j ≤ s.size ∧
      wr.ownsRow w.heap.size 81 2 v mems.length vs ∧ mems.length ≤ j ∧ IsMems wr (fun b => w.heap.size ≤ b ∧ some b ≠ v.ownBlock ∧ b ≠ w2.heap.size) mems vs ∧
      Holding wr w2.heap.size mems.length (mems.map (·.1)) ∧ (mems.map (·.1)).Nodup ∧ (mb = false → mems ≠ []) ∧
      At wr bp s j (if mb then d + 1 else d) ∧ Kept bp w wr ∧ ObjAt s i d j mems mb)
    case atStart =>
      refine ⟨j0, [], [], true, rfl, rfl, by omega, hj0s, World.ownsRow_nil _ _ _ _, by simp, rfl, ?_, by simp, by simp, A2.alloc _, (K1.trans K2).alloc _, HL.out⟩
      exact ⟨_, World.ownsMap_made _ _ _ _, fun s => by simp [Maps.has]⟩
    case round =>
      obtain ⟨j, mems, vs, mb, hg, rfl, hij, hjs, hO, hlen, hI, hM, hnd, hne, hA, hK, hR⟩ := hrel
      have HG := Lib.hid hg
      have HOW := Lib.hid hO
      have HI := Lib.hid hI
      have HR := Lib.hid hR
      have HM := Lib.hid hM
      have HND := Lib.hid hnd
      have HNE := Lib.hid hne
      clear hg hO hI hR HL hM hnd hne
      cases mb with
      | true =>
        have HA : Hid (At wr bp s j (d + 1)) := hA
        clear hA HNE
        go_wp2_with fail
        refine (blanks_any bp s j (d + 1) _ (by exact HA.out) hjs hs).mono ?_
        rintro e w3 ⟨j1, hb1, rfl, A3, K3⟩
        have HB1 := Lib.hid hb1
        have hj1s := hb1.2.1
        have hj1j := hb1.1
        have HA3 := Lib.hid A3
        clear hb1 A3
        by_cases hl1 : j1 < s.size
        · by_cases e34 : s[j1].toNat = 34
          · have b34 : ((s[j1].toNat : Int) != 34) = false := by simp [e34]
            have h34 : (L s)[j1]? = some 34 := by rw [L_get hl1]; exact congrArg some (UInt8.toNat_inj.1 e34)
            have H34 := Lib.hid h34
            have hM3 := HM.out.kept K3 (by omega)
            have hseen : Seen w3 (.map (some w2.heap.size)) (mems.map (·.1)) := by
              obtain ⟨D, ho, hh⟩ := hM3
              exact .inr ⟨_, _, D, rfl, ho, by omega, hh⟩
            have hseen2 : ∀ n, Seen (w3.drewN n) (.map (some w2.heap.size)) (mems.map (·.1)) := fun n => hseen
            have HT := Lib.hid (fun n => text_any bp s j1 (d + 1) (.map (some w2.heap.size)) (mems.map (·.1)) (w3.drewN n) HA3.out hs hl1 e34 (hseen2 n) (fun b hb => by cases hb; omega))
            clear h34 hM3 hseen hseen2
            go_wp2_with fail
            refine (here_some bp s j1 (d + 1) _ (by exact HA3.out) hl1).mono ?_
            rintro e w4 ⟨rfl, n1, rfl⟩
            go_wp2_with fail
            refine (HT.out n1).mono ?_
            rintro e w5 (⟨acc, jq, hjq, hq34, ⟨rfl, A5, K5⟩, hnin, hacc, hR5⟩ | ⟨p, hp, ⟨rfl, K5⟩, hR5⟩ | ⟨acc, jq, hq34, ⟨rfl, K5⟩, hin, hR5⟩)
            · have HR5 := Lib.hid hR5
              have HQ := Lib.hid hq34
              have HNIN := Lib.hid hnin
              have HA5 := Lib.hid A5
              have hjqs : jq < s.size := by have := (List.getElem?_eq_some_iff.1 hq34).1; rwa [L_len] at this
              have K35 : Kept bp wr w5 := K3.trans (((Kept.refl _ _).drewN n1).trans K5)
              have hM5 := HM.out.kept K35 (by omega)
              obtain ⟨D, ho5, hh5⟩ := hM5
              have HO5 := Lib.hid ho5
              have HH5 := Lib.hid hh5
              have hszD := map_size_le ho5
              have hwf : (Lit.int .i64 (Maps.size D : Nat)).wf = true := WalkArith.wf_i64 (by omega)
              have HWF := Lib.hid hwf
              have hsb : w2.heap.size < w5.heap.size := Holding.lt ⟨D, ho5, hh5⟩
              clear hR5 hq34 hnin A5 ho5 hh5 hwf
              go_wp2_with (first | (at_len; refine wpList_len_own _ rfl _ 92 rfl 9 3 Tryz.underlying92 (plainElem (H := Unit) Tryz.prog 3) w2.heap.size mems.length D rfl HO5.out ?_) | (at_mapUpdate; refine wpList_mapUpdate_own _ rfl _ _ _ 92 rfl 9 3 seenLaw Tryz.underlying92 (plainElem (H := Unit) Tryz.prog 3) w2.heap.size mems.length D rfl HO5.out (by unfold maxLen; omega) _ _ _ rfl rfl (keyOf_string_mk Tryz.underlying9 (by show acc.length ≤ _; unfold maxLen; omega)) _ [] (plainElem_int Tryz.underlying3 HWF.out) ?_; intro w6 hown6 hgrow6))
              have hM6 : Holding w6 w2.heap.size (mems.length + 1) (mems.map (·.1) ++ [acc]) := by
                refine ⟨_, hown6, fun x => ?_⟩
                by_cases hx : x = acc
                · subst hx; rw [Maps.has_put_same HO5.out.isMap (k := .string x) trivial]; simp
                · rw [Maps.has_put_other (by intro e; cases e; exact hx rfl), HH5.out]
                  simp [hx]
              have HM6 := Lib.hid hM6
              have HG6 := Lib.hid hgrow6
              have hA6 : At w6 bp s (jq + 1) (d + 1) := HA5.out.grown hgrow6 (fun k hk => by cases hk; omega)
              have HA6 := Lib.hid hA6
              have hne3 : some w2.heap.size ≠ u3.ownBlock := HM.out.noRow HOW.out
              have K6 : KeptB w.heap.size bp wr w6 := (K35.toB hK.size).trans (KeptB.grown hgrow6 (by have := K35.size; have := hK.size; omega) (fun k hk => by cases hk; omega))
              have hO6 : w6.ownsRow w.heap.size 81 2 u3 mems.length vs := by
                have h5 := ownsRow_keptK HOW.out K35 hbp
                refine h5.kept hgrow6 (.inr ?_)
                intro e; exact hne3 e.symm
              have HO6 := Lib.hid hO6
              have hI6 : IsMems w6 (fun b => w.heap.size ≤ b ∧ some b ≠ u3.ownBlock ∧ b ≠ w2.heap.size) mems vs := by
                refine IsMems.move (fun b hb hlt => ⟨?_, hb.1⟩) _ _ HI.out.bound
                obtain ⟨⟨h1, h2, h3⟩, h4⟩ := hb
                rw [hgrow6.block b (by have := K35.size; omega) (by intro e; cases e; exact h3 rfl)]
                exact K35.block b h4 (by omega)
              have HI6 := Lib.hid hI6
              have hs6 : wr.heap.size ≤ w6.heap.size := K6.size
              clear hown6 hgrow6 hM6 hA6 hO6 hI6 HO5 HH5 HWF
              refine (blanks_any bp s (jq + 1) (d + 1) _ (by exact HA6.out) (by omega) hs).mono ?_
              rintro e w7 ⟨jb, hb7, rfl, A7, K7⟩
              have HB7 := Lib.hid hb7
              have hjbs := hb7.2.1
              have hjbj := hb7.1
              have HA7 := Lib.hid A7
              clear hb7 A7
              go_wp2_with fail
              refine (want_any bp s jb (d + 1) 58 _ (by exact HA7.out) hjbs hs).mono ?_
              rintro e w8 (⟨c, hc, hc58, rfl, A8, K8⟩ | ⟨hn58, rfl, K8⟩)
              · have HC58 := Lib.hid (show (L s)[jb]? = some 58 by rw [hc, eq_of_toNat (a := c) (b := 58) (by rw [hc58]; rfl)])
                have HA8 := Lib.hid A8
                have hjb1 : jb < s.size := by have := (List.getElem?_eq_some_iff.1 hc).1; rwa [L_len] at this
                clear hc hc58 A8
                go_wp2_with fail
                refine (HV.out bp (jb + 1) _ (by exact HA8.out) (by omega)).mono ?_
                rintro e w9 (⟨t, x, jv, j9, hj99, hj9s, ⟨rfl, A9, K9⟩, hv9, hR9⟩ | ⟨k, p, hp, ⟨rfl, K9⟩, hR9⟩)
                · have HA9 := Lib.hid A9
                  have HV9 := Lib.hid hv9
                  have HR9 := Lib.hid hR9
                  have K69 : Kept bp w6 w9 := K7.trans (K8.trans K9)
                  have hs69 := K69.size
                  have hs78 := (K7.trans K8).size
                  have hs89 := K9.size
                  have hO9 := ownsRow_keptK HO6.out K69 hbp
                  have HO9 := Lib.hid hO9
                  have hM9 := HM6.out.kept K69 (by omega)
                  have HM9 := Lib.hid hM9
                  have hszr := hK.size
                  clear A9 hv9 hR9 hO9 hM9
                  go_wp2_with (at_builtin; refine wpList_append_own_at _ rfl _ _ 79 rfl w.heap.size 81 i0 (.agg #[.string ⟨#[]⟩, .nilIface]) 2 32 Tryz.underlying79 H0.out hz0 hz1 hz2 rfl (by decide) _ _ _ rfl (HO9.out.alloc _) ⟨w9.heap.size, 0, none⟩ 1 1 [.string ⟨acc.toArray⟩, .iface t x] rfl rfl (news_two (by simp)) ?c2 ?c3 ?c4 ?c5 ?_)
                  case c2 =>
                    intro u hu
                    simp only [List.mem_cons, List.mem_nil_iff, or_false] at hu
                    rcases hu with rfl | rfl <;> rfl
                  case c3 => unfold maxLen; omega
                  case c4 => omega
                  case c5 => simp; omega
                  intro v' wA hown' hgrow _ hloc
                  have HWA := Lib.hid hown'
                  have HGA := Lib.hid hgrow
                  have HLOC := Lib.hid hloc
                  clear hown' hgrow hloc
                  have hltv : ∀ k, u3.ownBlock = some k → w.heap.size ≤ k ∧ k < wr.heap.size := fun k hk => HOW.out.lt k hk
                  have hAA : At wA bp s j9 (d + 1) := (HA9.out.alloc _).grown HGA.out (fun k hk => by have := hltv k hk; omega)
                  have HAA := Lib.hid hAA
                  have hKA : Kept bp w wA := KeptB.toK ((hK.toB (Nat.le_refl _)).trans (K6.trans ((K69.toB (by omega)).trans (KeptB.trans ((KeptB.refl _ _ _).alloc (by omega) _) (KeptB.grown HGA.out (by simp; omega) (fun k hk => (hltv k hk).1))))))
                  have mv : ∀ b, b < w9.heap.size → some b ≠ u3.ownBlock → wA.heap[b]? = w9.heap[b]? := fun b hlt hne => by
                    rw [HGA.out.block b (by simp; omega) hne, Below.heap_alloc _ _ _ hlt]
                  have loc : ∀ b, b < w9.heap.size → some b ≠ u3.ownBlock → some b ≠ v'.ownBlock := fun b hlt hne => by
                    rcases HLOC.out with e | e
                    · rw [e]; exact hne
                    · rw [e]; intro e'; simp at e'; omega
                  have hMA : Holding wA w2.heap.size (mems.length + 1) (mems.map (·.1) ++ [acc]) := by
                    obtain ⟨D', ⟨es, cl, hh, hr⟩, hs'⟩ := HM9.out
                    have hlt9 := (Array.getElem?_eq_some_iff.1 hh).1
                    exact ⟨D', ⟨es, cl, (mv _ hlt9 hne3).trans hh, hr⟩, hs'⟩
                  have hIA : IsMems wA (fun b => w.heap.size ≤ b ∧ some b ≠ v'.ownBlock ∧ b ≠ w2.heap.size) (mems ++ [(acc, jv)]) (vs ++ [.string ⟨acc.toArray⟩, .iface t x]) := by
                    refine IsMems.snoc _ _ ?_ ?_
                    · refine IsMems.move (fun b hb hlt => ?_) mems vs HI6.out.bound
                      obtain ⟨⟨h1, h2, h3⟩, h4⟩ := hb
                      exact ⟨(mv b (by omega) h2).trans (K69.block b h4 (by omega)), h1, loc b (by omega) h2, h3⟩
                    · refine IsVal.move (fun b hb hlt => ?_) jv _ HV9.out.bound
                      obtain ⟨h1, h3⟩ := hb
                      have hne : some b ≠ u3.ownBlock := fun e => by have := hltv b e.symm; omega
                      have hs56 := HG6.out.size
                      exact ⟨mv b hlt hne, by omega, loc b hlt hne, by omega⟩
                  have HMA := Lib.hid hMA
                  have HIA := Lib.hid hIA
                  have HKA := Lib.hid hKA
                  have hndA : ((mems ++ [(acc, jv)]).map (·.1)).Nodup := by
                    rw [List.map_append, List.nodup_append]
                    refine ⟨HND.out, by simp, ?_⟩
                    intro a ha b hb
                    simp at hb; subst hb
                    intro e; subst e
                    exact HNIN.out ha
                  have HNDA := Lib.hid hndA
                  have hRA : ∀ K : List Fr, K.length = d → R (L s) i ⟨.val, K⟩ = R (L s) j9 ⟨.after jv, .objv mems acc :: K⟩ := fun K hKl => by
                    rw [HR.out K hKl]
                    simp only [if_true]
                    rw [HB1.out.R (blank_key _), key_quote H34.out, HR5.out, name_close HQ.out HNIN.out, HB7.out.R (blank_colon _), colon_go HC58.out]
                    exact HR9.out _ (by simp [hKl])
                  have HRA := Lib.hid hRA
                  clear hAA hKA hMA hIA hndA mv loc hRA
                  go_wp2_with fail
                  refine (more_any bp s j9 d 125 _ (by exact HAA.out) hj9s hs (by omega)).mono ?_
                  rintro e wB ⟨j2, hb2, hm⟩
                  have HB2 := Lib.hid hb2
                  have hj2s := hb2.2.1
                  have hj12 := hb2.1
                  clear hb2
                  rcases hm with ⟨h44, rfl, AB, KB⟩ | ⟨b, hb, hn44, hbc, rfl, AB, KB⟩ | ⟨hno, rfl, KB⟩
                  · have H44 := Lib.hid h44
                    clear h44
                    have hj2lt : j2 < s.size := by have := (List.getElem?_eq_some_iff.1 H44.out).1; rwa [L_len] at this
                    go_wp2_with fail
                    go_roundg (s.size - (j2 + 1) + 1)
                    case measure => rw [HG.out]; simp; omega
                    case rel =>
                      refine ⟨j2 + 1, mems ++ [(acc, jv)], vs ++ [.string ⟨acc.toArray⟩, .iface t x], true, rfl, rfl, by omega, by omega, ?_, by rw [List.length_append]; simp; omega, ?_, ?_, HNDA.out, by simp, AB, HKA.out.trans KB, fun K hKl => ?_⟩
                      · rw [List.length_append]; exact ownsRow_keptK HWA.out KB hbp
                      · refine IsMems.move (fun b hb hlt => ?_) _ _ HIA.out
                        exact ⟨KB.block b hlt (by omega), hb⟩
                      · rw [List.length_append, List.map_append]; exact HMA.out.kept KB (by omega)
                      · rw [HRA.out K hKl, HB2.out.R (blank_after _ _), obj_comma H44.out]
                        rfl
                  · have HBB := Lib.hid hb
                    have HBC := Lib.hid hbc
                    clear hb hbc hn44
                    have hj2lt : j2 < s.size := by have := (List.getElem?_eq_some_iff.1 HBB.out).1; rwa [L_len] at this
                    go_wp2_with fail
                    go_roundg 0
                    case measure => rw [HG.out]; simp
                    case rel =>
                      refine ⟨j2 + 1, mems ++ [(acc, jv)], vs ++ [.string ⟨acc.toArray⟩, .iface t x], false, rfl, rfl, by omega, by omega, ?_, by rw [List.length_append]; simp; omega, ?_, ?_, HNDA.out, by simp, AB, HKA.out.trans KB, fun K hKl => ?_⟩
                      · rw [List.length_append]; exact ownsRow_keptK HWA.out KB hbp
                      · refine IsMems.move (fun b hb hlt => ?_) _ _ HIA.out
                        exact ⟨KB.block b hlt (by omega), hb⟩
                      · rw [List.length_append, List.map_append]; exact HMA.out.kept KB (by omega)
                      · have e125 : b = 125 := eq_of_toNat (by rw [HBC.out]; rfl)
                        rw [HRA.out K hKl, HB2.out.R (blank_after _ _), obj_close (by rw [HBB.out, e125])]
                        rfl
                  · have HN := Lib.hid hno
                    clear hno
                    go_wp2_with fail
                    refine ⟨rfl, .inr ⟨40, j2, hj2s, ⟨rfl, HKA.out.trans KB⟩, fun K hKl => ?_⟩⟩
                    rw [HRA.out K hKl, HB2.out.R (blank_after _ _), obj_bad (fun c hc => ?_)]
                    · rfl
                    · obtain ⟨h1, h2⟩ := HN.out c hc
                      exact ⟨HB2.out.2.2.2 c hc, h1, fun e => h2 (by rw [e]; rfl)⟩
                · have HR9 := Lib.hid hR9
                  clear hR9
                  go_wp2_with fail
                  refine ⟨rfl, .inr ⟨k, p, hp, ⟨rfl, KeptB.toK ((hK.toB (Nat.le_refl _)).trans (K6.trans ((K7.trans (K8.trans K9)).toB (by have := hK.size; omega))))⟩, fun K hKl => ?_⟩⟩
                  rw [HR.out K hKl]
                  simp only [if_true]
                  rw [HB1.out.R (blank_key _), key_quote H34.out, HR5.out, name_close HQ.out HNIN.out, HB7.out.R (blank_colon _), colon_go HC58.out]
                  exact HR9.out _ (by simp [hKl])
              · have HN := Lib.hid hn58
                clear hn58
                go_wp2_with fail
                refine ⟨rfl, .inr ⟨40, jb, hjbs, ⟨rfl, KeptB.toK ((hK.toB (Nat.le_refl _)).trans (K6.trans ((K7.trans K8).toB (by have := hK.size; omega))))⟩, fun K hKl => ?_⟩⟩
                rw [HR.out K hKl]
                simp only [if_true]
                rw [HB1.out.R (blank_key _), key_quote H34.out, HR5.out, name_close HQ.out HNIN.out, HB7.out.R (blank_colon _), colon_bad (fun c hc => ⟨HB7.out.2.2.2 c hc, fun e => HN.out c hc (by rw [e]; rfl)⟩)]
                rfl
            · have HR5 := Lib.hid hR5
              clear hR5
              go_wp2_with fail
              refine ⟨rfl, .inr ⟨40, p, hp, ⟨rfl, hK.trans (K3.trans (((Kept.refl _ _).drewN n1).trans K5))⟩, fun K hKl => ?_⟩⟩
              rw [HR.out K hKl]
              simp only [if_true]
              rw [HB1.out.R (blank_key _), key_quote H34.out, HR5.out]
              rfl
            · have HR5 := Lib.hid hR5
              have HQ := Lib.hid hq34
              have HIN := Lib.hid hin
              clear hR5 hq34 hin
              go_wp2_with fail
              have hjqs : jq < s.size := by have := (List.getElem?_eq_some_iff.1 HQ.out).1; rwa [L_len] at this
              refine ⟨rfl, .inr ⟨42, jq, by omega, ⟨rfl, hK.trans (K3.trans (((Kept.refl _ _).drewN n1).trans K5))⟩, fun K hKl => ?_⟩⟩
              rw [HR.out K hKl]
              simp only [if_true]
              rw [HB1.out.R (blank_key _), key_quote H34.out, HR5.out, name_twice HQ.out HIN.out]
              rfl
          · have b34 : ((s[j1].toNat : Int) != 34) = true := by simp; omega
            go_wp2_with fail
            refine (here_some bp s j1 (d + 1) _ (by exact HA3.out) hl1).mono ?_
            rintro e w4 ⟨rfl, n1, rfl⟩
            go_wp2_with fail
            refine (fail_any bp s j1 (d + 1) 40 _ (by exact HA3.out)).mono ?_
            rintro e w5 ⟨rfl, rfl⟩
            go_wp2_with fail
            refine ⟨rfl, .inr ⟨40, j1, hj1s, ⟨rfl, hK.trans (K3.drewN n1)⟩, fun K hKl => ?_⟩⟩
            rw [HR.out K hKl]
            simp only [if_true]
            rw [HB1.out.R (blank_key _), key_bad (fun c hc => ?_)]
            · rfl
            · have hnb := HB1.out.2.2.2 c hc
              rw [L_get hl1] at hc; cases hc
              exact ⟨hnb, fun e => e34 (by rw [e]; rfl)⟩
        · have hje : j1 = s.size := by omega
          have hA' : At w3 bp s s.size (d + 1) := by rw [← hje]; exact HA3.out
          have HA' := Lib.hid hA'
          have HJE := Lib.hid hje
          clear hje hA'
          go_wp2_with fail
          refine (here_end bp s (d + 1) _ (by exact HA'.out)).mono ?_
          rintro e w4 ⟨rfl, n2, rfl⟩
          go_wp2_with fail
          refine ⟨rfl, .inr ⟨40, s.size, Nat.le_refl _, ⟨rfl, hK.trans (K3.drewN n2)⟩, fun K hKl => ?_⟩⟩
          rw [HR.out K hKl]
          simp only [if_true]
          rw [HB1.out.R (blank_key _), key_bad (fun c hc => ?_), HJE.out]
          · rfl
          · rw [L_end (by omega)] at hc; cases hc
      | false =>
        have HA : Hid (At wr bp s j d) := hA
        clear hA
        have hcall := sort_own w.heap.size u3 mems vs wr (fun b => w.heap.size ≤ b ∧ some b ≠ u3.ownBlock ∧ b ≠ w2.heap.size) HOW.out HI.out (fun b hb => hb.2.1) HND.out (HNE.out rfl) (by omega)
        have HCALL := Lib.hid hcall
        clear hcall
        go_wp2_with fail
        refine (HCALL.out).mono ?_
        rintro e w3 ⟨rfl, vs', hO3, hI3, hg3⟩
        have HO3 := Lib.hid hO3
        have HI3 := Lib.hid hI3
        have HG3 := Lib.hid hg3
        clear hO3 hI3 hg3
        go_wp2_with fail
        go_ret
        have hltv : ∀ k, u3.ownBlock = some k → w.heap.size ≤ k ∧ k < wr.heap.size := fun k hk => HOW.out.lt k hk
        refine .inl ⟨_, _, .obj (sortMem mems), j, by omega, hjs, ⟨rfl, HA.out.grown HG3.out (fun k hk => by have := hltv k hk; omega), ?_⟩, ?_, fun K hKl => HR.out K hKl⟩
        · exact KeptB.toK ((hK.toB (Nat.le_refl _)).trans (KeptB.grown HG3.out hK.size (fun k hk => (hltv k hk).1)))
        · have hl : (sortMem mems).length = mems.length := (perm_sort mems).length_eq
          refine ⟨_, vs', rfl, by omega, ?_, ?_⟩
          · rw [hl]; exact (Row.of_own HO3.out).move (fun b hb hlt => ⟨rfl, hb⟩)
          · exact IsMems.move (fun b hb hlt => ⟨rfl, hb.1⟩) _ _ HI3.out
  · have HE := Lib.hid he
    clear he
    go_wp2_with fail
    refine ⟨rfl, .inr ⟨40, j0, hj0s, ⟨rfl, K1.trans K2⟩, fun K hK => ?_⟩⟩
    rw [obj_open HC.out K (by omega), HJ.out.R (blank_obj0 _), obj0_end (by rw [L_len, HE.out]; exact Nat.le_refl _)]
    rfl

#print axioms object_any

end Jot
end Go.Proofs.YthgcnmdnjfajbaaGreatDoor
