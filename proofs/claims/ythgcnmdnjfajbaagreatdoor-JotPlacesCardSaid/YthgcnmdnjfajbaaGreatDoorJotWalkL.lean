/- Walk of package jot: list, over what value comes to one deeper. Conditions: a parser that stands at a bracket. -/
import Derived.Test.YthgcnmdnjfajbaaGreatDoorJotWalkK
import Derived.Test.YthgcnmdnjfajbaaGreatDoorJotVal
import Derived.Test.YthgcnmdnjfajbaaGreatDoorJotPlainV
import Derived.Maps.AppendAt
namespace Go.Proofs.YthgcnmdnjfajbaaGreatDoor
open Go.RowKit
namespace Jot

/-- What value comes to (and list, object). -/
def ValPost (bp : Nat) (s : ByteArray) (w : World) (i d : Nat) (e : Ending) (w' : World) : Prop :=
  (∃ (t : TypeId) (x : Value) (jv : JV) (j : Nat), i < j ∧ j ≤ s.size ∧ Went bp s w (.iface t x) j d e w' ∧ IsVal w' (fun b => w.heap.size ≤ b) jv (.iface t x) ∧
    ∀ K : List Fr, K.length = d → R (L s) i ⟨.val, K⟩ = R (L s) j ⟨.after jv, K⟩) ∨
  (∃ k p, p ≤ s.size ∧ Gave bp w k p e w' ∧ ∀ K : List Fr, K.length = d → R (L s) i ⟨.val, K⟩ = .bad k p)

/-- value's contract at a depth. -/
def ValueAt (s : ByteArray) (d : Nat) : Prop :=
  ∀ (bp i : Nat) (w : World), At w bp s i d → i ≤ s.size → Calls Tryz.prog 11 #[.pointer (some ⟨bp, 0, none⟩)] w (ValPost bp s w i d)

theorem infoVal : (Tryz.prog.info? 44).map (fun i => (i.zero, i.size, i.bytes)) = some (some .nilIface, 1, 16) := by kernel_rfl

theorem Blanks.R {s : ByteArray} {i j : Nat} (h : Blanks s i j) {st : St} (hs : ∀ c, isBlank c = true → δ st c = .go st) : R (L s) i st = R (L s) j st :=
  R_blanks h.1 h.2.2.1 (by rw [L_len]; exact h.2.1) hs

/-- The loop's relation on the machine: behind a comma, or behind the closing bracket. -/
def ListAt (s : ByteArray) (i d j : Nat) (its : List JV) (more : Bool) : Prop :=
  ∀ K : List Fr, K.length = d → R (L s) i ⟨.val, K⟩ = if more then R (L s) j ⟨.val, .arr its :: K⟩ else R (L s) j ⟨.after (.list its), K⟩

set_option maxRecDepth 100000 in
set_option maxHeartbeats 1000000 in
theorem list_deep (bp : Nat) (s : ByteArray) (i : Nat) (w : World) (h : At w bp s i 16) (hi : i < s.size) (hc : (L s)[i]? = some 91) :
    Calls Tryz.prog 24 #[.pointer (some ⟨bp, 0, none⟩)] w (ValPost bp s w i 16) := by
  have HO := Lib.hid (open_deep bp s i w h)
  have HC := Lib.hid hc
  clear h hc
  go_enter Tryz.func24, Tryz.ntmps24
  go_wp2_with fail
  refine (HO.out).mono ?_
  rintro e w' ⟨rfl, K1⟩
  go_wp2_with fail
  exact ⟨rfl, .inr ⟨41, i, by omega, ⟨rfl, K1⟩, fun K hK => arr_deep HC.out K hK⟩⟩

set_option maxRecDepth 100000 in
set_option maxHeartbeats 2000000 in
theorem list_any (bp : Nat) (s : ByteArray) (i d : Nat) (w : World) (h : At w bp s i d) (hi : i < s.size) (hs : s.size ≤ 4000) (hc : (L s)[i]? = some 91) (hd : d < 16) (hval : ValueAt s (d + 1)) :
    Calls Tryz.prog 24 #[.pointer (some ⟨bp, 0, none⟩)] w (ValPost bp s w i d) := by
  have HO := Lib.hid (open_ok bp s i d w h hd hi hs)
  have HC := Lib.hid hc
  have HV := Lib.hid hval
  have hbp := h.lt
  clear h hc hval
  go_enter Tryz.func24, Tryz.ntmps24
  go_wp2_with fail
  refine (HO.out).mono ?_
  rintro e w1 ⟨j0, hj0, rfl, A1, K1⟩
  have HJ := Lib.hid hj0
  have hj0s := hj0.2.1
  have hij0 := hj0.1
  clear hj0
  go_wp2_with fail
  refine (empty_any bp s j0 d 93 _ (by exact A1) hj0s hs (by omega)).mono ?_
  rintro e w2 (⟨b, hb, hbc, rfl, A2, K2⟩ | ⟨b, hb, hbc, rfl, A2, K2⟩ | ⟨he, rfl, K2⟩)
  · have HB := Lib.hid hb
    have HBC := Lib.hid hbc
    clear hb hbc
    go_wp2_with fail
    go_ret
    have hlt : j0 < s.size := by have := (List.getElem?_eq_some_iff.1 HB.out).1; rwa [L_len] at this
    refine .inl ⟨_, _, .list [], j0 + 1, by omega, by omega, ⟨rfl, A2, K1.trans K2⟩, ?_, fun K hK => ?_⟩
    · exact ⟨_, [], rfl, by simp, ⟨World.ownsRow_nil _ _ _ _, fun g hg => by simp [Value.ownBlock] at hg⟩, rfl⟩
    · have e93 : b = 93 := eq_of_toNat (by rw [HBC.out]; rfl)
      rw [arr_open HC.out K (by omega), HJ.out.R (blank_arr0 _), arr0_close (by rw [HB.out, e93])]
  · have HL : Hid (ListAt s i d j0 [] true) := by
      intro K hK
      have e93 : b ≠ 93 := fun e => hbc (by rw [e]; rfl)
      rw [arr_open HC.out K (by omega), HJ.out.R (blank_arr0 _), arr0_val hb (HJ.out.2.2.2 b hb) e93]
      rfl
    clear hb hbc
    obtain ⟨i0, hi0, hz0, hz1, hz2⟩ := info_parts infoVal
    have H0 := Lib.hid hi0
    clear hi0
    go_wp2_with fail
    go_loopg [3, 4] (s.size - j0 + 1) (fun g v m wr => ∃ (j : Nat) (its : List JV) (vs : List Value) (mb : Bool), g = (if mb then s.size - j + 1 else 0) ∧ m = .bool mb ∧ i < j ∧ j ≤ s.size ∧
      wr.ownsRow w.heap.size 44 1 v its.length vs ∧ its.length ≤ j ∧ IsVals wr (fun b => w.heap.size ≤ b ∧ some b ≠ v.ownBlock) its vs ∧ At wr bp s j (if mb then d + 1 else d) ∧ Kept bp w wr ∧ ListAt s i d j its mb)
    case atStart => exact ⟨j0, [], [], true, rfl, rfl, by omega, hj0s, World.ownsRow_nil _ _ _ _, by simp, rfl, A2, K1.trans K2, HL.out⟩
    case round =>
      obtain ⟨j, its, vs, mb, hg, rfl, hij, hjs, hO, hlen, hI, hA, hK, hR⟩ := hrel
      have HG := Lib.hid hg
      have HOW := Lib.hid hO
      have HI := Lib.hid hI
      have HR := Lib.hid hR
      clear hg hO hI hR HL
      cases mb with
      | true =>
        have HA : Hid (At wr bp s j (d + 1)) := hA
        clear hA
        go_wp2_with fail
        refine (HV.out bp j _ (by exact HA.out) hjs).mono ?_
        rintro e w3 (⟨t, x, jv, j1, hjj, hj1, ⟨rfl, A3, K3⟩, hv, hR3⟩ | ⟨k, p, hp, ⟨rfl, K3⟩, hR3⟩)
        · have HA3 := Lib.hid A3
          have HVV := Lib.hid hv
          have HR3 := Lib.hid hR3
          have hsz3 := K3.size
          have hszr := hK.size
          have HO3 := Lib.hid (ownsRow_keptK HOW.out K3 hbp)
          clear A3 hv hR3
          go_wp2_with (at_builtin; refine wpList_append_own_at _ rfl _ _ 77 rfl w.heap.size 44 i0 .nilIface 1 16 Tryz.underlying77 H0.out hz0 hz1 hz2 rfl (by decide) _ _ _ rfl (HO3.out.alloc _) ⟨w3.heap.size, 0, none⟩ 1 1 [.iface t x] rfl rfl (news_one (by simp)) ?c2 ?c3 ?c4 ?c5 ?_)
          case c2 => intro u hu; simp at hu; subst hu; rfl
          case c3 => unfold maxLen; omega
          case c4 => omega
          case c5 => simp; omega
          intro v' w4 hown' hgrow _ hloc
          have HW4 := Lib.hid hown'
          have HG4 := Lib.hid hgrow
          have HLOC := Lib.hid hloc
          clear hown' hgrow hloc
          have hltv : ∀ k, u3.ownBlock = some k → w.heap.size ≤ k ∧ k < wr.heap.size := fun k hk => HOW.out.lt k hk
          have hA4 : At w4 bp s j1 (d + 1) := (HA3.out.alloc _).grown HG4.out (fun k hk => by have := hltv k hk; omega)
          have HA4 := Lib.hid hA4
          have hK4 : Kept bp w w4 := KeptB.toK ((hK.toB (Nat.le_refl _)).trans ((K3.toB hszr).trans (KeptB.trans ((KeptB.refl _ _ _).alloc (by omega) _) (KeptB.grown HG4.out (by simp; omega) (fun k hk => (hltv k hk).1)))))
          have hI4 : IsVals w4 (fun b => w.heap.size ≤ b ∧ some b ≠ v'.ownBlock) (its ++ [jv]) (vs ++ [.iface t x]) := by
            have mv : ∀ b, w.heap.size ≤ b → b < w3.heap.size → some b ≠ u3.ownBlock → w4.heap[b]? = w3.heap[b]? := fun b hb hlt hne => by
              rw [HG4.out.block b (by simp; omega) hne, Below.heap_alloc _ _ _ hlt]
            have loc : ∀ b, b < w3.heap.size → some b ≠ u3.ownBlock → some b ≠ v'.ownBlock := fun b hlt hne => by
              rcases HLOC.out with e | e
              · rw [e]; exact hne
              · rw [e]; intro e'; simp at e'; omega
            refine IsVals.snoc _ _ ?_ ?_
            · refine IsVals.move (fun b hb hlt => ?_) its vs HI.out.bound
              obtain ⟨⟨h1, h2⟩, h3⟩ := hb
              exact ⟨(mv b h1 (by omega) h2).trans (K3.block b h3 (by omega)), h1, loc b (by omega) h2⟩
            · refine IsVal.move (fun b hb hlt => ?_) jv _ HVV.out.bound
              obtain ⟨h1, h3⟩ := hb
              have hne : some b ≠ u3.ownBlock := fun e => by have := hltv b e.symm; omega
              exact ⟨mv b (by omega) hlt hne, by omega, loc b hlt hne⟩
          have HI4 := Lib.hid hI4
          have HK4 := Lib.hid hK4
          clear hA4 hK4 hI4
          go_wp2_with fail
          refine (more_any bp s j1 d 93 _ (by exact HA4.out) hj1 hs (by omega)).mono ?_
          rintro e w5 ⟨j2, hb2, hm⟩
          have HB2 := Lib.hid hb2
          have hj2s := hb2.2.1
          have hj12 := hb2.1
          clear hb2
          rcases hm with ⟨h44, rfl, A5, K5⟩ | ⟨b, hb, hn44, hbc, rfl, A5, K5⟩ | ⟨hno, rfl, K5⟩
          · have H44 := Lib.hid h44
            clear h44
            go_wp2_with fail
            have hj2lt : j2 < s.size := by have := (List.getElem?_eq_some_iff.1 H44.out).1; rwa [L_len] at this
            go_roundg (s.size - (j2 + 1) + 1)
            case measure => rw [HG.out]; simp; omega
            case rel =>
              refine ⟨j2 + 1, its ++ [jv], vs ++ [.iface t x], true, rfl, rfl, by omega, by omega, ?_, by rw [List.length_append]; simp; omega, ?_, A5, HK4.out.trans K5, fun K hKl => ?_⟩
              · rw [List.length_append]; exact ownsRow_keptK HW4.out K5 hbp
              · refine IsVals.move (fun b hb hlt => ?_) _ _ HI4.out
                exact ⟨K5.block b hlt (by omega), hb⟩
              · rw [HR.out K hKl]
                simp only [if_true]
                rw [HR3.out (.arr its :: K) (by simp [hKl]), HB2.out.R (blank_after _ _), arr_comma H44.out]
          · have HBB := Lib.hid hb
            have HBC := Lib.hid hbc
            clear hb hbc hn44
            have hj2lt : j2 < s.size := by have := (List.getElem?_eq_some_iff.1 HBB.out).1; rwa [L_len] at this
            go_wp2_with fail
            go_roundg 0
            case measure => rw [HG.out]; simp
            case rel =>
              refine ⟨j2 + 1, its ++ [jv], vs ++ [.iface t x], false, rfl, rfl, by omega, by omega, ?_, by rw [List.length_append]; simp; omega, ?_, A5, HK4.out.trans K5, fun K hKl => ?_⟩
              · rw [List.length_append]; exact ownsRow_keptK HW4.out K5 hbp
              · refine IsVals.move (fun b hb hlt => ?_) _ _ HI4.out
                exact ⟨K5.block b hlt (by omega), hb⟩
              · have e93 : b = 93 := eq_of_toNat (by rw [HBC.out]; rfl)
                rw [HR.out K hKl]
                simp only [if_true]
                rw [HR3.out (.arr its :: K) (by simp [hKl]), HB2.out.R (blank_after _ _), arr_close (by rw [HBB.out, e93])]
                rfl
          · have HN := Lib.hid hno
            clear hno
            go_wp2_with fail
            refine ⟨rfl, .inr ⟨40, j2, hj2s, ⟨rfl, HK4.out.trans K5⟩, fun K hKl => ?_⟩⟩
            rw [HR.out K hKl]
            simp only [if_true]
            rw [HR3.out (.arr its :: K) (by simp [hKl]), HB2.out.R (blank_after _ _), arr_bad (fun c hc => ?_)]
            · rfl
            · obtain ⟨h1, h2⟩ := HN.out c hc
              exact ⟨HB2.out.2.2.2 c hc, h1, fun e => h2 (by rw [e]; rfl)⟩
        · have HR3 := Lib.hid hR3
          clear hR3
          go_wp2_with fail
          refine ⟨rfl, .inr ⟨k, p, hp, ⟨rfl, hK.trans K3⟩, fun K hKl => ?_⟩⟩
          rw [HR.out K hKl]
          simp only [if_true]
          exact HR3.out (.arr its :: K) (by simp [hKl])
      | false =>
        have HA : Hid (At wr bp s j d) := hA
        clear hA
        go_wp2_with fail
        go_ret
        refine .inl ⟨_, _, .list its, j, by omega, hjs, ⟨rfl, HA.out, hK⟩, ?_, fun K hKl => HR.out K hKl⟩
        refine ⟨_, vs, rfl, by omega, ?_, ?_⟩
        · exact (Row.of_own HOW.out).move (fun b hb hlt => ⟨rfl, hb⟩)
        · exact IsVals.move (fun b hb hlt => ⟨rfl, hb.1⟩) _ _ HI.out
  · have HE := Lib.hid he
    clear he
    go_wp2_with fail
    refine ⟨rfl, .inr ⟨40, j0, hj0s, ⟨rfl, K1.trans K2⟩, fun K hK => ?_⟩⟩
    rw [arr_open HC.out K (by omega), HJ.out.R (blank_arr0 _), arr0_end (by rw [L_len, HE.out]; exact Nat.le_refl _)]
    rfl

#print axioms list_any

end Jot
end Go.Proofs.YthgcnmdnjfajbaaGreatDoor
