/- Walk over the reference's reader: member, over what value comes to. Conditions: a reader that stands in an object. -/
import Derived.Test.YthgcnmdnjfajbaaGreatDoorRefM
namespace Go.Proofs.YthgcnmdnjfajbaaGreatDoor
open Go.RowKit
namespace Jot
open Lib (compareBytes)

/-- What stands in memory while a member is read: the object so far, the result. -/
structure MB (w : World) (bp : Nat) (wr : World) (nv iv : Value) : Prop where
  kept : Kept bp w wr
  bv : wr.heap[w.heap.size]? = some (.cells #[.int .i64 6, .int .i64 0, .string ⟨#[]⟩, nv, iv] 26 (0, 0))
  br : wr.heap[w.heap.size + 1]? = some (.cells #[.int .i64 0, .int .i64 0, .string ⟨#[]⟩, .slice none 0 0, .slice none 0 0] 26 (0, 0))

theorem MB.start {w w1 : World} {bp : Nat} {nv iv : Value} (hbp : bp < w.heap.size) (K : Kept bp ((w.alloc (.cells #[.int .i64 6, .int .i64 0, .string ⟨#[]⟩, nv, iv] 26 (0, 0))).alloc (.cells #[.int .i64 0, .int .i64 0, .string ⟨#[]⟩, .slice none 0 0, .slice none 0 0] 26 (0, 0))) w1) :
    MB w bp w1 nv iv := by
  refine ⟨(((Kept.refl bp w).alloc _).alloc _).trans K, ?_, ?_⟩
  · rw [K.block _ (by simp; omega) (by omega), Below.heap_alloc _ _ _ (by simp)]; exact heap_alloc_new _ _
  · rw [K.block _ (by simp) (by omega)]; exact heap_alloc_at _ _ (by simp)

theorem MB.lt {w wr : World} {bp : Nat} {nv iv : Value} (h : MB w bp wr nv iv) : w.heap.size + 2 ≤ wr.heap.size := (Array.getElem?_eq_some_iff.1 h.br).1

theorem MB.keptK {w wr w' : World} {bp : Nat} {nv iv : Value} (h : MB w bp wr nv iv) (hbp : bp < w.heap.size) (K : Kept bp wr w') : MB w bp w' nv iv := by
  have := h.lt
  exact ⟨h.kept.trans K, (K.block _ (by omega) (by omega)).trans h.bv, (K.block _ (by omega) (by omega)).trans h.br⟩

theorem MB.keptB {w wr w' : World} {bp B : Nat} {nv iv : Value} (h : MB w bp wr nv iv) (hB : w.heap.size + 2 ≤ B) (K : KeptB B B wr w') : MB w bp w' nv iv :=
  ⟨⟨K.os.trans h.kept.os, K.tape.trans h.kept.tape, K.output.trans h.kept.output, Nat.le_trans h.kept.size K.size, fun b hb hn => (K.block b (by omega) (by omega)).trans (h.kept.block b hb hn)⟩,
    (K.block _ (by omega) (by omega)).trans h.bv, (K.block _ (by omega) (by omega)).trans h.br⟩

theorem MB.set3 {w wr : World} {bp : Nat} {nv iv : Value} (h : MB w bp wr nv iv) (u : Value) : MB w bp (wr.setCell ⟨w.heap.size, 3, none⟩ u) u iv :=
  ⟨h.kept.setNew (Nat.le_refl _) u, by rw [heap_set_same h.bv]; rfl, by rw [heap_set_far _ _ _ _ (by omega)]; exact h.br⟩

theorem MB.set4 {w wr : World} {bp : Nat} {nv iv : Value} (h : MB w bp wr nv iv) (u : Value) : MB w bp (wr.setCell ⟨w.heap.size, 4, none⟩ u) nv u :=
  ⟨h.kept.setNew (Nat.le_refl _) u, by rw [heap_set_same h.bv]; rfl, by rw [heap_set_far _ _ _ _ (by omega)]; exact h.br⟩

theorem ones_map (l : List Bs) : ∀ u ∈ l.map str, Value.oneCell' u = true := fun u hu => by
  obtain ⟨x, _, rfl⟩ := List.mem_map.1 hu; rfl

theorem ones_take {l : List Value} (h : ∀ u ∈ l, Value.oneCell' u = true) (k : Nat) : ∀ u ∈ l.take k, Value.oneCell' u = true := fun u hu => h u (List.mem_of_mem_take hu)
theorem ones_drop {l : List Value} (h : ∀ u ∈ l, Value.oneCell' u = true) (k : Nat) : ∀ u ∈ l.drop k, Value.oneCell' u = true := fun u hu => h u (List.mem_of_mem_drop hu)

/-- What the walk reads of an item that lies in a block of its own. -/
theorem five_cells {w : World} {b : Nat} {u0 u1 u2 u3 u4 : Value} (h : w.heap[b]? = some (.cells #[u0, u1, u2, u3, u4] 26 (0, 0))) :
    w.cell? ⟨b, 0, none⟩ = some u0 ∧ w.cell? ⟨b, 1, none⟩ = some u1 ∧ w.cell? ⟨b, 2, none⟩ = some u2 ∧ w.cell? ⟨b, 3, none⟩ = some u3 ∧ w.cell? ⟨b, 4, none⟩ = some u4 := by
  refine ⟨?_, ?_, ?_, ?_, ?_⟩ <;> simp [World.cell?, h]

/-- What the walk reads of them. -/
theorem MB.facts {w wr : World} {bp : Nat} {nv iv : Value} (h : MB w bp wr nv iv) :
    (wr.cell? ⟨w.heap.size, 0, none⟩ = some (.int .i64 6) ∧ wr.cell? ⟨w.heap.size, 1, none⟩ = some (.int .i64 0) ∧ wr.cell? ⟨w.heap.size, 2, none⟩ = some (.string ⟨#[]⟩) ∧ wr.cell? ⟨w.heap.size, 3, none⟩ = some nv ∧ wr.cell? ⟨w.heap.size, 4, none⟩ = some iv) ∧
    (wr.cell? ⟨w.heap.size + 1, 0, none⟩ = some (.int .i64 0) ∧ wr.cell? ⟨w.heap.size + 1, 1, none⟩ = some (.int .i64 0) ∧ wr.cell? ⟨w.heap.size + 1, 2, none⟩ = some (.string ⟨#[]⟩) ∧ wr.cell? ⟨w.heap.size + 1, 3, none⟩ = some (.slice none 0 0) ∧ wr.cell? ⟨w.heap.size + 1, 4, none⟩ = some (.slice none 0 0)) ∧
    (wr.frozen? ⟨w.heap.size + 1, 0, none⟩ = false ∧ wr.frozen? ⟨w.heap.size + 1, 1, none⟩ = false ∧ wr.frozen? ⟨w.heap.size + 1, 2, none⟩ = false ∧ wr.frozen? ⟨w.heap.size + 1, 3, none⟩ = false ∧ wr.frozen? ⟨w.heap.size + 1, 4, none⟩ = false) ∧
    (wr.frozen? ⟨w.heap.size, 3, none⟩ = false ∧ wr.frozen? ⟨w.heap.size, 4, none⟩ = false) := by
  have hbv := h.bv
  have hbr := h.br
  refine ⟨⟨?_, ?_, ?_, ?_, ?_⟩, ⟨?_, ?_, ?_, ?_, ?_⟩, ⟨?_, ?_, ?_, ?_, ?_⟩, ?_, ?_⟩
  all_goals first
    | (simp [World.cell?, hbv]; done)
    | (simp [World.cell?, hbr]; done)
    | (simp [World.frozen?, hbv]; done)
    | (simp [World.frozen?, hbr]; done)

/-- The value, laid into the result's block. -/
theorem MB.five {w wr : World} {bp : Nat} {nv iv : Value} (h : MB w bp wr nv iv) (hbp : bp < w.heap.size) {s : ByteArray} {i e d : Nat} (A : RAt wr bp s i e d) (u0 u1 u2 u3 u4 : Value) :
    Kept bp w (setFive wr (w.heap.size + 1) u0 u1 u2 u3 u4) ∧ RAt (setFive wr (w.heap.size + 1) u0 u1 u2 u3 u4) bp s i e d := by
  refine ⟨((((h.kept.setNew (Nat.le_succ _) _).setNew (Nat.le_succ _) _).setNew (Nat.le_succ _) _).setNew (Nat.le_succ _) _).setNew (Nat.le_succ _) _, ?_⟩
  unfold RAt at A ⊢
  rw [setFive_far _ _ _ _ _ _ trivial (by omega)]; exact A

/-- What member comes to. -/
def RMem (bp : Nat) (s : ByteArray) (w : World) (i d : Nat) (ns : List Bs) (nv iv : Value) (e : Ending) (w' : World) : Prop :=
  (∃ (name : Bs) (k : Nat) (an : Option Addr) (cn : Nat) (ai : Option Addr) (ci : Nat) (cs : List Value) (jv : JV) (j : Nat), i < j ∧ j ≤ s.size ∧ name ∉ ns ∧ Rising (ns.take k ++ [name] ++ ns.drop k) ∧
    RWent bp s w (.tuple #[.agg #[.int .i64 6, .int .i64 0, .string ⟨#[]⟩, .slice an (ns.length + 1) cn, .slice ai (ns.length + 1) ci], .bool true]) j d e w' ∧
    w'.ownsRow w.heap.size 9 1 (.slice an (ns.length + 1) cn) (ns.length + 1) ((ns.take k ++ [name] ++ ns.drop k).map str) ∧ w'.ownsRow w.heap.size 26 5 (.slice ai (ns.length + 1) ci) (ns.length + 1) cs ∧ (∀ u ∈ cs, Value.oneCell' u = true) ∧
    ∀ (mem : List (Bs × JV)) (K : List Fr), (∀ x, x ∈ ns ↔ x ∈ mem.map (·.1)) → K.length + 1 = d → R (L s) i ⟨.key, .obj mem :: K⟩ = R (L s) j ⟨.after jv, .objv mem name :: K⟩) ∨
  (∃ q p, p ≤ s.size ∧ RGave bp s w (.tuple #[.agg #[.int .i64 6, .int .i64 0, .string ⟨#[]⟩, nv, iv], .bool false]) q p e w' ∧
    ∀ (mem : List (Bs × JV)) (K : List Fr), (∀ x, x ∈ ns ↔ x ∈ mem.map (·.1)) → K.length + 1 = d → R (L s) i ⟨.key, .obj mem :: K⟩ = .bad q p)

set_option maxRecDepth 100000 in
set_option maxHeartbeats 4000000 in
theorem r_member (bp : Nat) (s : ByteArray) (i d B0 : Nat) (ns : List Bs) (an : Option Addr) (cn : Nat) (ai : Option Addr) (ci : Nat) (cs : List Value) (w : World) (h : RAt w bp s i 0 d) (hi : i ≤ s.size) (hs : s.size ≤ big) (hnb : NoBlank s i)
    (hN : w.ownsRow B0 9 1 (.slice an ns.length cn) ns.length (ns.map str)) (hI : w.ownsRow B0 26 5 (.slice ai ns.length ci) ns.length cs) (hone : ∀ u ∈ cs, Value.oneCell' u = true) (hB0 : bp < B0) (hrise : Rising ns) (hlen : ns.length ≤ i) (hval : ValueR s d) :
    Calls Tryz.prog 73 #[.pointer (some ⟨bp, 0, none⟩), .agg #[.int .i64 6, .int .i64 0, .string ⟨#[]⟩, .slice an ns.length cn, .slice ai ns.length ci]] w (RMem bp s w i d ns (.slice an ns.length cn) (.slice ai ns.length ci)) := by
  have H := Lib.hid h
  have HV := Lib.hid hval
  have HS := Lib.hid hs
  have HN := Lib.hid hN
  have HI := Lib.hid hI
  have HONE := Lib.hid hone
  have HRI := Lib.hid hrise
  have HNB := Lib.hid hnb
  have hbp := h.lt
  obtain ⟨i0, hi0, hz0, hz1, hz2⟩ := info_parts infoJot
  have HI0 := Lib.hid hi0
  obtain ⟨i1, hi1, hy0, hy1, hy2⟩ := info_parts infoStr
  have HI1 := Lib.hid hi1
  have HL1 := Lib.hid (show (ns.map str).length = ns.length * 1 by simp)
  have HL2 := Lib.hid hI.1
  unfold big at hs
  clear h hval hN hI hone hrise hnb hi0 hi1
  go_enter Tryz.func73, Tryz.ntmps73
  go_wp2_with fail
  refine (r_text bp s i d _ (by exact (H.out.alloc _).alloc _) HS.out).mono ?_
  rintro e w1 (⟨name, j, hij, hq, hqj, ⟨rfl, A1, K1⟩, hnl, hR⟩ | ⟨hq, rfl, ⟨d1, A1⟩, K1⟩ | ⟨p, hp, hq, ⟨rfl, ⟨d1, A1⟩, K1⟩, hR⟩)
  · have HA1 := Lib.hid A1
    have HR := Lib.hid hR
    have HQ := Lib.hid hq
    have HQJ := Lib.hid hqj
    have hjlt : j < s.size := by have := (List.getElem?_eq_some_iff.1 hqj).1; rwa [L_len] at this
    clear A1 hR hq hqj
    have HM := Lib.hid (MB.start hbp K1)
    have HK1 := Lib.hid ((((Kept.refl bp w).alloc _).alloc _).trans K1)
    have HN1 := Lib.hid (ownsRow_keptK HN.out HK1.out hB0)
    obtain ⟨⟨v0, v1, v2, v3, v4⟩, ⟨r0, r1, r2, r3, r4⟩, ⟨f0, f1, f2, f3, f4⟩, _⟩ := HM.out.facts
    clear K1
    unfold str
    go_wp2_with fail
    go_loopg [8] (ns.length) (fun g kv wr => ∃ k : Nat, g = ns.length - k ∧ kv = .int .i64 k ∧ Placed ns name k ∧ wr = w1)
    case atStart => exact ⟨0, rfl, rfl, ⟨Nat.zero_le _, fun x hx => by simp at hx⟩, rfl⟩
    case round =>
      obtain ⟨k, hg, rfl, hpl, rfl⟩ := hrel
      have HG := Lib.hid hg
      have HPL := Lib.hid hpl
      have hkl := hpl.1
      clear hg hpl
      by_cases hk : k < ns.length
      · obtain ⟨g, cap, hgs, _, hglt⟩ := HN1.out.form (by omega)
        obtain ⟨rfl, rfl⟩ : an = some ⟨g, 0, none⟩ ∧ cn = cap := by cases hgs; exact ⟨rfl, rfl⟩
        have hcell : wr.cell? ⟨g, k, none⟩ = some (.string ⟨(ns[k]).toArray⟩) := by
          have h1 := World.ownsRow.cells (g := g) HN1.out rfl k (str ns[k]) (by simp [hk])
          rwa [Addr.add_lit, Nat.zero_add] at h1
        clear hgs
        by_cases hlt : compareBytes ns[k] name < 0
        · have hb1 : Op.bytesLess ns[k] name = true := by rw [bytesLess_cb]; simpa using hlt
          have HLT := Lib.hid hlt
          clear hlt
          go_wp2_with fail
          go_roundg (ns.length - (k + 1))
          case measure => rw [HG.out]; omega
          case rel => exact ⟨k + 1, rfl, by go_num, HPL.out.step (by simp [hk]) HLT.out, rfl⟩
        · have hb1 : Op.bytesLess ns[k] name = false := by rw [bytesLess_cb]; simpa using hlt
          by_cases heq : ns[k] = name
          · have hb2 : (ns[k] == name) = true := by simp [heq]
            have HIN := Lib.hid (show name ∈ ns by rw [← heq]; exact List.getElem_mem hk)
            have p1 := HA1.out.c1
            have pf1 := HA1.out.f1
            have HM0 := Lib.hid (HM.out.keptK hbp ((Kept.refl bp wr).set 1 (.int .i64 (j : Int))))
            have HA0 := Lib.hid (HA1.out.set1 j)
            clear heq hlt
            go_wp2_with fail
            obtain ⟨w0, hw0⟩ : ∃ w0, w0 = wr.setCell ⟨bp, 1, none⟩ (.int .i64 (j : Int)) := ⟨_, rfl⟩
            rw [← hw0] at HM0 HA0 ⊢
            have HK0 := Lib.hid (show Kept bp wr w0 by rw [hw0]; exact (Kept.refl bp wr).set 1 _)
            clear hw0 v0 v1 v2 v3 v4 r0 r1 r2 r3 r4 f0 f1 f2 f3 f4 p1 pf1
            obtain ⟨⟨v0, v1, v2, v3, v4⟩, ⟨r0, r1, r2, r3, r4⟩, ⟨f0, f1, f2, f3, f4⟩, _⟩ := HM0.out.facts
            go_region_with (go_at_call 55; refine (r_wrong bp s j 0 d 42 _ (by exact HA0.out)).mono ?_; rintro e w3 ⟨rfl, ⟨d3, A3⟩, K3⟩; have HA3 := Lib.hid A3; have HM3 := Lib.hid (HM0.out.keptK hbp ((Kept.drew (Kept.refl bp w0)).trans K3)); clear A3; obtain ⟨⟨x0, x1, x2, x3, x4⟩, ⟨y0, y1, y2, y3, y4⟩, ⟨z0, z1, z2, z3, z4⟩, _⟩ := HM3.out.facts)
            all_goals
              go_wp2_with fail
              refine bodyPost_ret (by simp [results, Tryz.results73, go_sem, y0, y1, y2, y3, y4]; try rfl) rfl ?_
              obtain ⟨q1, q2⟩ := HM3.out.five hbp HA3.out (.int .i64 6) (.int .i64 0) (.string ⟨#[]⟩) (.slice (some ⟨g, 0, none⟩) ns.length cn) (.slice ai ns.length ci)
              refine .inr ⟨42, j, by omega, ⟨rfl, ⟨_, q2⟩, q1⟩, fun mem K hm hK => ?_⟩
              rw [key_quote HQ.out, HR.out true (.obj mem :: K), name_twice HQJ.out ((hm name).1 HIN.out)]
              rfl
          · have hb2 : (ns[k] == name) = false := by simp [heq]
            have hgt : Hid (∀ x, ns[k]? = some x → 0 < compareBytes x name) := by
              intro x hx
              rw [List.getElem?_eq_getElem hk] at hx; cases hx
              rcases Int.lt_trichotomy (compareBytes ns[k] name) 0 with h | h | h
              · exact absurd h hlt
              · exact absurd (cb_zero _ _ h) heq
              · exact h
            clear heq hlt
            have HPN := Lib.hid (placed_new HRI.out HPL.out hgt.out)
            clear hgt
            go_wp2_with fail
            clear hcell hb1 hb2
            clear v0 v1 v2 v3 v4 r0 r1 r2 r3 r4 f0 f1 f2 f3 f4
            refine (r_blanks bp s (j + 1) 0 d _ (by exact HA1.out) hjlt HS.out).mono ?_
            rintro e w2 ⟨j2, hb2, rfl, A2, K2⟩
            have HB2 := Lib.hid hb2
            have HA2 := Lib.hid A2
            have HK2 := Lib.hid K2
            have hj2s := hb2.2.1
            have hj12 := hb2.1
            have HRJ : Hid (∀ (mem : List (Bs × JV)) (K : List Fr), (∀ x, x ∈ ns ↔ x ∈ mem.map (·.1)) → K.length + 1 = d → R (L s) i ⟨.key, .obj mem :: K⟩ = R (L s) j2 ⟨.colon, .objv mem name :: K⟩) := fun mem K hm hK => by
              rw [key_quote HQ.out, HR.out true (.obj mem :: K), name_close HQJ.out (fun h => HPN.out.1 ((hm name).2 h)), hb2.R (blank_colon _)]
            clear hb2 A2 K2 HR HQ HQJ HA1
            go_wp2_with fail
            refine (r_takes bp s j2 d 58 _ (by exact HA2.out) HS.out).mono ?_
            rintro e w3 (⟨h58, rfl, A3, K3⟩ | ⟨h58, rfl, ⟨d3, A3⟩, K3⟩)
            · have H58 := Lib.hid h58
              have HA3 := Lib.hid A3
              have HK3 := Lib.hid (HK2.out.trans K3)
              have hj2lt : j2 < s.size := by have := (List.getElem?_eq_some_iff.1 h58).1; rwa [L_len] at this
              clear h58 A3 K3 HK2 HA2
              go_wp2_with fail
              refine (r_blanks bp s (j2 + 1) 0 d _ (by exact HA3.out) hj2lt HS.out).mono ?_
              rintro e w4 ⟨j3, hb3, rfl, A4, K4⟩
              have HB3 := Lib.hid hb3
              have HA4 := Lib.hid A4
              have HK4 := Lib.hid (HK3.out.trans K4)
              have hj3s := hb3.2.1
              have hj23 := hb3.1
              have HRV : Hid (∀ (mem : List (Bs × JV)) (K : List Fr), (∀ x, x ∈ ns ↔ x ∈ mem.map (·.1)) → K.length + 1 = d → R (L s) i ⟨.key, .obj mem :: K⟩ = R (L s) j3 ⟨.val, .objv mem name :: K⟩) := fun mem K hm hK => by
                rw [HRJ.out mem K hm hK, colon_go H58.out, hb3.R (blank_val _)]
              clear hb3 A4 K4 HK3 HA3 HRJ H58
              go_wp2_with fail
              refine (HV.out bp j3 _ (by exact HA4.out) hj3s HB3.out.2.2.2).mono ?_
              rintro e w5 (⟨k5, n5, t5, an5, ln5, cn5, ai5, li5, ci5, jv, j5, hjj, hj5, ⟨rfl, A5, K5⟩, hR5⟩ | ⟨k5, n5, t5, an5, ln5, cn5, ai5, li5, ci5, q, p, hp, ⟨rfl, ⟨d5, A5⟩, K5⟩, hR5⟩)
              · have HRE : Hid (∀ (mem : List (Bs × JV)) (K : List Fr), (∀ x, x ∈ ns ↔ x ∈ mem.map (·.1)) → K.length + 1 = d → R (L s) i ⟨.key, .obj mem :: K⟩ = R (L s) j5 ⟨.after jv, .objv mem name :: K⟩) := fun mem K hm hK => by
                  rw [HRV.out mem K hm hK, hR5 (.objv mem name :: K) (by simp [hK])]
                have HKW := Lib.hid ((HK4.out.trans K5).alloc (.cells #[.int .i64 k5, .int .i64 n5, .string ⟨t5.toArray⟩, .slice an5 ln5 cn5, .slice ai5 li5 ci5] 26 (0, 0)))
                have HAW := Lib.hid (A5.alloc (.cells #[.int .i64 k5, .int .i64 n5, .string ⟨t5.toArray⟩, .slice an5 ln5 cn5, .slice ai5 li5 ci5] 26 (0, 0)))
                have HXW := Lib.hid (heap_alloc_new w5 (.cells #[.int .i64 k5, .int .i64 n5, .string ⟨t5.toArray⟩, .slice an5 ln5 cn5, .slice ai5 li5 ci5] 26 (0, 0)))
                have hxlt : w5.heap.size < (w5.alloc (.cells #[.int .i64 k5, .int .i64 n5, .string ⟨t5.toArray⟩, .slice an5 ln5 cn5, .slice ai5 li5 ci5] 26 (0, 0))).heap.size := by simp
                have h5x := (HM.out.keptK hbp (HK4.out.trans K5)).lt
                clear A5 K5 hR5 HRV HK4 HA4
                unfold str
                go_upto_region 20 with fail
                generalize w5.alloc (.cells #[.int .i64 k5, .int .i64 n5, .string ⟨t5.toArray⟩, .slice an5 ln5 cn5, .slice ai5 li5 ci5] 26 (0, 0)) = W at *
                generalize w5.heap.size = bx at *
                have HMW := Lib.hid (HM.out.keptK hbp HKW.out)
                have HNW := Lib.hid (ownsRow_keptK HN1.out HKW.out hB0)
                have HIW := Lib.hid (ownsRow_keptK (ownsRow_keptK HI.out HK1.out hB0) HKW.out hB0)
                have hB := HMW.out.lt
                have hk63 : k ≤ maxLen := by unfold maxLen; omega
                have hk163 : k + 1 ≤ maxLen := by unfold maxLen; omega
                have hn63 : ns.length + 1 ≤ maxLen := by unfold maxLen; omega
                have hkb : k * 16 ≤ 140737488355328 := by omega
                have hkb5 : k * 80 ≤ 140737488355328 := by omega
                have hk1b : (k + 1) * 16 ≤ 140737488355328 := by omega
                have hk1b5 : (k + 1) * 80 ≤ 140737488355328 := by omega
                have hnb1 : (ns.length + 1) * 16 ≤ 140737488355328 := by omega
                have hnb5 : (ns.length + 1) * 80 ≤ 140737488355328 := by omega
                have hv3 := HMW.out.facts.1.2.2.2.1
                obtain ⟨ao1, c1, hr1, hn1, hc1⟩ := cut_h (t := 23) (size := 1) Tryz.underlying23 HI1.out hy1 HNW.out k hkl
                have HR1 := Lib.hid hr1
                have HZ1 := Lib.hid hn1
                have HC1 := Lib.hid hc1
                have HT1 := Lib.hid (show ((ns.map str).take (k * 1)).length = k * 1 by rw [List.length_take, HL1.out]; omega)
                clear hr1 hn1 hc1
                go_wp2_with (first | (refine wpList_slice_h _ rfl 23 _ _ rfl _ _ _ rfl rfl (HR1.out _) ?_) | (at_builtin; refine wpList_append_any _ rfl _ _ 23 rfl W.heap.size 9 i1 (.string ⟨#[]⟩) 1 16 Tryz.underlying23 HI1.out hy0 hy1 hy2 rfl (by decide) (.slice none 0 0) 0 [] rfl (World.ownsRow_nil _ _ _ _) ao1 k c1 ((ns.map str).take (k * 1)) rfl HT1.out HZ1.out HC1.out (ones_take (ones_map ns) _) k (Nat.zero_add k) hk63 hkb (Nat.le_refl _) ?_))
                intro a1 e1 w6 hown1 hgr1 hat1
                have HN6 := Lib.hid hown1
                have HK6 : Hid (KeptB W.heap.size W.heap.size W w6) := KeptB.grown hgr1 (Nat.le_refl _) (fun k hk => by simp [Value.ownBlock] at hk)
                have HM6 := Lib.hid (HMW.out.keptB hB HK6.out)
                have HI6 := Lib.hid (own_same HIW.out (fun b hb => HK6.out.block b (HIW.out.lt b hb).2 (by have := (HIW.out.lt b hb).2; omega)))
                have h6 := HK6.out.size
                clear hown1 hgr1 hat1 hv3 HR1 HZ1 HC1 HT1
                have hv4 := HM6.out.facts.1.2.2.2.2
                obtain ⟨ao2, c2, hr2, hn2, hc2⟩ := cut_h (t := 24) (size := 5) Tryz.underlying24 HI0.out hz1 HI6.out k hkl
                have HR2 := Lib.hid hr2
                have HZ2 := Lib.hid hn2
                have HC2 := Lib.hid hc2
                have HT2 := Lib.hid (show (cs.take (k * 5)).length = k * 5 by rw [List.length_take, HL2.out]; omega)
                clear hr2 hn2 hc2
                go_wp2_with (first | (refine wpList_slice_h _ rfl 24 _ _ rfl _ _ _ rfl rfl (HR2.out _) ?_) | (at_builtin; refine wpList_append_any _ rfl _ _ 24 rfl W.heap.size 26 i0 _ 5 80 Tryz.underlying24 HI0.out hz0 hz1 hz2 rfl (by decide) (.slice none 0 0) 0 [] rfl (World.ownsRow_nil _ _ _ _) ao2 k c2 (cs.take (k * 5)) rfl HT2.out HZ2.out HC2.out (ones_take HONE.out _) k (Nat.zero_add k) hk63 hkb5 h6 ?_))
                intro a2 e2 w7 hown2 hgr2 hat2
                have HI7 := Lib.hid hown2
                have HK7 : Hid (KeptB W.heap.size W.heap.size W w7) := HK6.out.trans (KeptB.grown hgr2 h6 (fun k hk => by simp [Value.ownBlock] at hk))
                have HN7 := Lib.hid (HN6.out.kept hgr2 (own_apart HN6.out (World.ownsRow_nil w6 0 26 5) (by decide)))
                have h7 := HK7.out.size
                clear hown2 hgr2 hat2 hv4 HR2 HZ2 HC2 HT2 HN6 HK6 HM6 HI6 h6
                have HC3 : Hid (∀ a, some (⟨w7.heap.size, 0, none⟩ : Addr) = some a → ∀ j u, [Value.string ⟨name.toArray⟩][j]? = some u → (w7.alloc (.cells #[.string ⟨name.toArray⟩] 9)).cell? (a.add j) = some u) := fun a ha => by
                  cases ha; exact World.news_of_block (cs := #[.string ⟨name.toArray⟩]) (t := 9) (fr := (0, 0)) (heap_alloc_new w7 _)
                have hs7 : W.heap.size ≤ (w7.alloc (.cells #[.string ⟨name.toArray⟩] 9)).heap.size := by simp; omega
                have HO3 := Lib.hid (show ∀ u ∈ [Value.string ⟨name.toArray⟩], Value.oneCell' u = true by intro u hu; simp at hu; subst hu; rfl)
                go_wp2_with (at_builtin; refine wpList_append_any _ rfl _ _ 23 rfl W.heap.size 9 i1 (.string ⟨#[]⟩) 1 16 Tryz.underlying23 HI1.out hy0 hy1 hy2 rfl (by decide) (.slice a1 k e1) k _ rfl (HN7.out.alloc _) (some ⟨w7.heap.size, 0, none⟩) 1 1 [.string ⟨name.toArray⟩] rfl rfl (fun h => by cases h) HC3.out HO3.out (k + 1) rfl hk163 hk1b hs7 ?_)
                intro a3 e3 w8 hown3 hgr3 hat3
                have HN8 := Lib.hid hown3
                have HK8 : Hid (KeptB W.heap.size W.heap.size W w8) := (HK7.out.alloc h7 _).trans (KeptB.grown hgr3 hs7 (fun k hk => (HN7.out.lt k hk).1))
                have HI8 := Lib.hid ((HI7.out.alloc _).kept hgr3 (own_apart (HI7.out.alloc (.cells #[.string ⟨name.toArray⟩] 9)) (HN7.out.alloc _) (by decide)))
                have HX8 := Lib.hid ((HK8.out.block bx hxlt (by omega)).trans HXW.out)
                have h8 := HK8.out.size
                clear hown3 hgr3 hat3 HN7 HI7 HK7 HC3 hs7 h7
                obtain ⟨x0, x1, x2, x3, x4⟩ := five_cells HX8.out
                have HC4 : Hid (∀ a, some (⟨w8.heap.size, 0, none⟩ : Addr) = some a → ∀ j u, [Value.int .i64 k5, .int .i64 n5, .string ⟨t5.toArray⟩, .slice an5 ln5 cn5, .slice ai5 li5 ci5][j]? = some u → (w8.alloc (.cells #[.int .i64 k5, .int .i64 n5, .string ⟨t5.toArray⟩, .slice an5 ln5 cn5, .slice ai5 li5 ci5] 26)).cell? (a.add j) = some u) := fun a ha => by
                  cases ha; exact World.news_of_block (cs := #[.int .i64 k5, .int .i64 n5, .string ⟨t5.toArray⟩, .slice an5 ln5 cn5, .slice ai5 li5 ci5]) (t := 26) (fr := (0, 0)) (heap_alloc_new w8 _)
                have hs8 : W.heap.size ≤ (w8.alloc (.cells #[.int .i64 k5, .int .i64 n5, .string ⟨t5.toArray⟩, .slice an5 ln5 cn5, .slice ai5 li5 ci5] 26)).heap.size := by simp; omega
                have HO4 := Lib.hid (news5_one k5 n5 t5 an5 ln5 cn5 ai5 li5 ci5)
                go_wp2_with (at_builtin; refine wpList_append_any _ rfl _ _ 24 rfl W.heap.size 26 i0 _ 5 80 Tryz.underlying24 HI0.out hz0 hz1 hz2 rfl (by decide) (.slice a2 k e2) k _ rfl (HI8.out.alloc _) (some ⟨w8.heap.size, 0, none⟩) 1 1 [.int .i64 k5, .int .i64 n5, .string ⟨t5.toArray⟩, .slice an5 ln5 cn5, .slice ai5 li5 ci5] rfl rfl (fun h => by cases h) HC4.out HO4.out (k + 1) rfl hk163 hk1b5 hs8 ?_)
                intro a4 e4 w9 hown4 hgr4 hat4
                have HI9 := Lib.hid hown4
                have HK9 : Hid (KeptB W.heap.size W.heap.size W w9) := (HK8.out.alloc h8 _).trans (KeptB.grown hgr4 hs8 (fun k hk => (HI8.out.lt k hk).1))
                have HN9 := Lib.hid ((HN8.out.alloc _).kept hgr4 (own_apart (HN8.out.alloc (.cells #[.int .i64 k5, .int .i64 n5, .string ⟨t5.toArray⟩, .slice an5 ln5 cn5, .slice ai5 li5 ci5] 26)) (HI8.out.alloc _) (by decide)))
                have HM9 := Lib.hid (HMW.out.keptB hB HK9.out)
                have HS9 := Lib.hid (own_same HNW.out (fun b hb => HK9.out.block b (HNW.out.lt b hb).2 (by have := (HNW.out.lt b hb).2; omega)))
                have h9 := HK9.out.size
                clear hown4 hgr4 hat4 HN8 HI8 HK8 HC4 hs8 h8 x0 x1 x2 x3 x4 HX8
                have hv39 := HM9.out.facts.1.2.2.2.1
                obtain ⟨ao5, c5, hr5, hn5, hc5⟩ := cut_l (t := 23) (size := 1) Tryz.underlying23 HI1.out hy1 HS9.out k hkl
                have HR5 := Lib.hid hr5
                have HZ5 := Lib.hid hn5
                have HC5 := Lib.hid hc5
                have HT5 := Lib.hid (show ((ns.map str).drop (k * 1)).length = (ns.length - k) * 1 by rw [List.length_drop, HL1.out]; omega)
                have HE5 := Lib.hid (show k + 1 + (ns.length - k) = ns.length + 1 by omega)
                clear hr5 hn5 hc5
                go_wp2_with (first | (refine wpList_slice_l _ rfl 23 _ _ rfl _ _ _ rfl rfl (HR5.out _) ?_) | (at_builtin; refine wpList_append_any _ rfl _ _ 23 rfl W.heap.size 9 i1 (.string ⟨#[]⟩) 1 16 Tryz.underlying23 HI1.out hy0 hy1 hy2 rfl (by decide) (.slice a3 (k + 1) e3) (k + 1) _ rfl HN9.out ao5 (ns.length - k) c5 ((ns.map str).drop (k * 1)) rfl HT5.out HZ5.out HC5.out (ones_drop (ones_map ns) _) (ns.length + 1) HE5.out hn63 hnb1 h9 ?_))
                intro a5 e5 w10 hown5 hgr5 hat5
                have HN10 := Lib.hid hown5
                have HK10 : Hid (KeptB W.heap.size W.heap.size W w10) := HK9.out.trans (KeptB.grown hgr5 h9 (fun k hk => (HN9.out.lt k hk).1))
                have HI10 := Lib.hid (HI9.out.kept hgr5 (own_apart HI9.out HN9.out (by decide)))
                have HM10 := Lib.hid (HMW.out.keptB hB HK10.out)
                have h10 := HK10.out.size
                clear hown5 hgr5 hat5 HN9 HI9 HK9 HM9 HS9 h9 hv39 HR5 HZ5 HC5 HT5
                have hv3c := HM10.out.facts.1.2.2.2.1
                have hv3f := HM10.out.facts.2.2.2.1
                have HM10' := Lib.hid (HM10.out.set3 (.slice a5 (ns.length + 1) e5))
                have HS10 := Lib.hid (own_same (w' := w10.setCell ⟨w.heap.size, 3, none⟩ (.slice a5 (ns.length + 1) e5)) HIW.out (fun b hb => by
                  rw [heap_set_far _ _ _ _ (fun e => by have h1 := (HIW.out.lt b hb).1; have h2 := HMW.out.lt; have h3 := (HI.out.lt b hb).2; omega)]
                  exact HK10.out.block b (HIW.out.lt b hb).2 (by have := (HIW.out.lt b hb).2; omega)))
                have HN10' := Lib.hid (ownsRow_setCell_below (a := ⟨w.heap.size, 3, none⟩) HN10.out (show w.heap.size < W.heap.size by omega) (.slice a5 (ns.length + 1) e5))
                have HI10' := Lib.hid (ownsRow_setCell_below (a := ⟨w.heap.size, 3, none⟩) HI10.out (show w.heap.size < W.heap.size by omega) (.slice a5 (ns.length + 1) e5))
                have HA10' := Lib.hid (RAt.setOther (b := w.heap.size) (o := 3) (RAt.keptB HAW.out HK10.out (by omega)) (by omega) (.slice a5 (ns.length + 1) e5))
                have h10' : W.heap.size ≤ (w10.setCell ⟨w.heap.size, 3, none⟩ (.slice a5 (ns.length + 1) e5)).heap.size := by rw [size_set]; exact h10
                clear HN10 HI10 HK10 HM10 h10
                go_upto_region 25 with fail
                generalize w10.setCell ⟨w.heap.size, 3, none⟩ (.slice a5 (ns.length + 1) e5) = wa at *
                clear hv3c hv3f
                have hv4a := HM10'.out.facts.1.2.2.2.2
                obtain ⟨ao6, c6, hr6, hn6, hc6⟩ := cut_l (t := 24) (size := 5) Tryz.underlying24 HI0.out hz1 HS10.out k hkl
                have HR6 := Lib.hid hr6
                have HZ6 := Lib.hid hn6
                have HC6 := Lib.hid hc6
                have HT6 := Lib.hid (show (cs.drop (k * 5)).length = (ns.length - k) * 5 by rw [List.length_drop, HL2.out]; omega)
                clear hr6 hn6 hc6
                go_wp2_with (first | (refine wpList_slice_l _ rfl 24 _ _ rfl _ _ _ rfl rfl (HR6.out _) ?_) | (at_builtin; refine wpList_append_any _ rfl _ _ 24 rfl W.heap.size 26 i0 _ 5 80 Tryz.underlying24 HI0.out hz0 hz1 hz2 rfl (by decide) (.slice a4 (k + 1) e4) (k + 1) _ rfl HI10'.out ao6 (ns.length - k) c6 (cs.drop (k * 5)) rfl HT6.out HZ6.out HC6.out (ones_drop HONE.out _) (ns.length + 1) HE5.out hn63 hnb5 h10' ?_))
                intro a6 e6 w11 hown6 hgr6 hat6
                have HI11 := Lib.hid hown6
                have HKa : Hid (KeptB W.heap.size W.heap.size wa w11) := KeptB.grown hgr6 h10' (fun k hk => (HI10'.out.lt k hk).1)
                have HN11 := Lib.hid (HN10'.out.kept hgr6 (own_apart HN10'.out HI10'.out (by decide)))
                have HM11 := Lib.hid (HM10'.out.keptB hB HKa.out)
                have HA11 := Lib.hid (RAt.keptB HA10'.out HKa.out (by omega))
                clear hown6 hgr6 hat6 HN10' HI10' HM10' HS10 hv4a HR6 HZ6 HC6 HT6 HA10' HKa
                have hv4c := HM11.out.facts.1.2.2.2.2
                have hv4f := HM11.out.facts.2.2.2.2
                have HM12 := Lib.hid (HM11.out.set4 (.slice a6 (ns.length + 1) e6))
                have HN12 := Lib.hid (ownsRow_setCell_below (a := ⟨w.heap.size, 4, none⟩) HN11.out (show w.heap.size < W.heap.size by omega) (.slice a6 (ns.length + 1) e6))
                have HI12 := Lib.hid (ownsRow_setCell_below (a := ⟨w.heap.size, 4, none⟩) HI11.out (show w.heap.size < W.heap.size by omega) (.slice a6 (ns.length + 1) e6))
                have HA12 := Lib.hid (RAt.setOther (b := w.heap.size) (o := 4) HA11.out (by omega) (.slice a6 (ns.length + 1) e6))
                clear HN11 HI11 HM11 HA11
                go_upto_region 26 with fail
                generalize w11.setCell ⟨w.heap.size, 4, none⟩ (.slice a6 (ns.length + 1) e6) = wb at *
                clear hv4c hv4f
                obtain ⟨⟨v0, v1, v2, v3, v4⟩, ⟨r0, r1, r2, r3, r4⟩, ⟨f0, f1, f2, f3, f4⟩, _⟩ := HM12.out.facts
                go_wp2_with fail
                refine bodyPost_ret (by simp [results, Tryz.results73, go_sem, r0, r1, r2, r3, r4]; try rfl) rfl ?_
                obtain ⟨q1, q2⟩ := HM12.out.five hbp HA12.out (.int .i64 6) (.int .i64 0) (.string ⟨#[]⟩) (.slice a5 (ns.length + 1) e5) (.slice a6 (ns.length + 1) e6)
                have sets : ∀ b, W.heap.size ≤ b → (setFive wb (w.heap.size + 1) (.int .i64 6) (.int .i64 0) (.string ⟨#[]⟩) (.slice a5 (ns.length + 1) e5) (.slice a6 (ns.length + 1) e6)).heap[b]? = wb.heap[b]? := fun b hb => setFive_far _ _ _ _ _ _ trivial (by omega)
                refine .inl ⟨name, k, a5, e5, a6, e6, _, jv, j5, by omega, hj5, HPN.out.1, HPN.out.2, ⟨rfl, q2, q1⟩, ?_, own_le (own_same HI12.out (fun b hb => sets b (HI12.out.lt b hb).1)) (by omega), ?_, HRE.out⟩
                · have := own_le (own_same HN12.out (fun b hb => sets b (HN12.out.lt b hb).1)) (show w.heap.size ≤ W.heap.size by omega)
                  rw [show (ns.take k ++ [name] ++ ns.drop k).map str = (ns.map str).take k ++ Value.string ⟨name.toArray⟩ :: (ns.map str).drop k by simp [List.map_take, List.map_drop, str]]
                  exact this
                · intro u hu
                  have h4 := ones_append (ones_append (ones_take HONE.out (k * 5)) HO4.out) (ones_drop HONE.out (k * 5))
                  exact h4 u (by simpa [str] using hu)
              · have HRF : Hid (∀ (mem : List (Bs × JV)) (K : List Fr), (∀ x, x ∈ ns ↔ x ∈ mem.map (·.1)) → K.length + 1 = d → R (L s) i ⟨.key, .obj mem :: K⟩ = .bad q p) := fun mem K hm hK => by
                  rw [HRV.out mem K hm hK, hR5 (.objv mem name :: K) (by simp [hK])]
                have HA5 := Lib.hid (A5.alloc (.cells #[.int .i64 k5, .int .i64 n5, .string ⟨t5.toArray⟩, .slice an5 ln5 cn5, .slice ai5 li5 ci5] 26 (0, 0)))
                have HM5 := Lib.hid (HM.out.keptK hbp ((HK4.out.trans K5).alloc (.cells #[.int .i64 k5, .int .i64 n5, .string ⟨t5.toArray⟩, .slice an5 ln5 cn5, .slice ai5 li5 ci5] 26 (0, 0))))
                obtain ⟨⟨v0, v1, v2, v3, v4⟩, ⟨r0, r1, r2, r3, r4⟩, ⟨f0, f1, f2, f3, f4⟩, _⟩ := HM5.out.facts
                clear A5 K5 hR5 HRV
                unfold str
                go_wp2_with fail
                refine bodyPost_ret (by simp [results, Tryz.results73, go_sem, r0, r1, r2, r3, r4]; try rfl) rfl ?_
                obtain ⟨q1, q2⟩ := HM5.out.five hbp HA5.out (.int .i64 6) (.int .i64 0) (.string ⟨#[]⟩) (.slice (some ⟨g, 0, none⟩) ns.length cn) (.slice ai ns.length ci)
                exact .inr ⟨q, p, hp, ⟨rfl, ⟨_, q2⟩, q1⟩, HRF.out⟩
            · have H58 := Lib.hid h58
              have HA3 := Lib.hid A3
              have HM3 := Lib.hid (HM.out.keptK hbp (HK2.out.trans K3))
              obtain ⟨⟨v0, v1, v2, v3, v4⟩, ⟨r0, r1, r2, r3, r4⟩, ⟨f0, f1, f2, f3, f4⟩, _⟩ := HM3.out.facts
              clear h58 A3 K3
              go_wp2_with fail
              refine bodyPost_ret (by simp [results, Tryz.results73, go_sem, r0, r1, r2, r3, r4]; try rfl) rfl ?_
              obtain ⟨q1, q2⟩ := HM3.out.five hbp HA3.out (.int .i64 6) (.int .i64 0) (.string ⟨#[]⟩) (.slice (some ⟨g, 0, none⟩) ns.length cn) (.slice ai ns.length ci)
              refine .inr ⟨40, j2, hj2s, ⟨rfl, ⟨_, q2⟩, q1⟩, fun mem K hm hK => ?_⟩
              rw [HRJ.out mem K hm hK, colon_bad fun c hc => ⟨HB2.out.2.2.2 c hc, fun e => H58.out (by rw [hc, e])⟩]
              rfl
      · have hgt : Hid (∀ x, ns[k]? = some x → 0 < compareBytes x name) := fun x hx => by rw [List.getElem?_eq_none (by omega)] at hx; cases hx
        have hkf : decide (k < ns.length) = false := by simp; omega
        have hkf2 : ¬ ((k : Int) < (ns.length : Int)) := by omega
        have HPN := Lib.hid (placed_new HRI.out HPL.out hgt.out)
        clear hgt
        have HKE := Lib.hid hkl
        go_wp2_with fail
        clear hkf hkf2
        clear v0 v1 v2 v3 v4 r0 r1 r2 r3 r4 f0 f1 f2 f3 f4
        refine (r_blanks bp s (j + 1) 0 d _ (by exact HA1.out) hjlt HS.out).mono ?_
        rintro e w2 ⟨j2, hb2, rfl, A2, K2⟩
        have HB2 := Lib.hid hb2
        have HA2 := Lib.hid A2
        have HK2 := Lib.hid K2
        have hj2s := hb2.2.1
        have hj12 := hb2.1
        have HRJ : Hid (∀ (mem : List (Bs × JV)) (K : List Fr), (∀ x, x ∈ ns ↔ x ∈ mem.map (·.1)) → K.length + 1 = d → R (L s) i ⟨.key, .obj mem :: K⟩ = R (L s) j2 ⟨.colon, .objv mem name :: K⟩) := fun mem K hm hK => by
          rw [key_quote HQ.out, HR.out true (.obj mem :: K), name_close HQJ.out (fun h => HPN.out.1 ((hm name).2 h)), hb2.R (blank_colon _)]
        clear hb2 A2 K2 HR HQ HQJ HA1
        go_wp2_with fail
        refine (r_takes bp s j2 d 58 _ (by exact HA2.out) HS.out).mono ?_
        rintro e w3 (⟨h58, rfl, A3, K3⟩ | ⟨h58, rfl, ⟨d3, A3⟩, K3⟩)
        · have H58 := Lib.hid h58
          have HA3 := Lib.hid A3
          have HK3 := Lib.hid (HK2.out.trans K3)
          have hj2lt : j2 < s.size := by have := (List.getElem?_eq_some_iff.1 h58).1; rwa [L_len] at this
          clear h58 A3 K3 HK2 HA2
          go_wp2_with fail
          refine (r_blanks bp s (j2 + 1) 0 d _ (by exact HA3.out) hj2lt HS.out).mono ?_
          rintro e w4 ⟨j3, hb3, rfl, A4, K4⟩
          have HB3 := Lib.hid hb3
          have HA4 := Lib.hid A4
          have HK4 := Lib.hid (HK3.out.trans K4)
          have hj3s := hb3.2.1
          have hj23 := hb3.1
          have HRV : Hid (∀ (mem : List (Bs × JV)) (K : List Fr), (∀ x, x ∈ ns ↔ x ∈ mem.map (·.1)) → K.length + 1 = d → R (L s) i ⟨.key, .obj mem :: K⟩ = R (L s) j3 ⟨.val, .objv mem name :: K⟩) := fun mem K hm hK => by
            rw [HRJ.out mem K hm hK, colon_go H58.out, hb3.R (blank_val _)]
          clear hb3 A4 K4 HK3 HA3 HRJ H58
          go_wp2_with fail
          refine (HV.out bp j3 _ (by exact HA4.out) hj3s HB3.out.2.2.2).mono ?_
          rintro e w5 (⟨k5, n5, t5, an5, ln5, cn5, ai5, li5, ci5, jv, j5, hjj, hj5, ⟨rfl, A5, K5⟩, hR5⟩ | ⟨k5, n5, t5, an5, ln5, cn5, ai5, li5, ci5, q, p, hp, ⟨rfl, ⟨d5, A5⟩, K5⟩, hR5⟩)
          · have HRE : Hid (∀ (mem : List (Bs × JV)) (K : List Fr), (∀ x, x ∈ ns ↔ x ∈ mem.map (·.1)) → K.length + 1 = d → R (L s) i ⟨.key, .obj mem :: K⟩ = R (L s) j5 ⟨.after jv, .objv mem name :: K⟩) := fun mem K hm hK => by
              rw [HRV.out mem K hm hK, hR5 (.objv mem name :: K) (by simp [hK])]
            have HKW := Lib.hid ((HK4.out.trans K5).alloc (.cells #[.int .i64 k5, .int .i64 n5, .string ⟨t5.toArray⟩, .slice an5 ln5 cn5, .slice ai5 li5 ci5] 26 (0, 0)))
            have HAW := Lib.hid (A5.alloc (.cells #[.int .i64 k5, .int .i64 n5, .string ⟨t5.toArray⟩, .slice an5 ln5 cn5, .slice ai5 li5 ci5] 26 (0, 0)))
            have HXW := Lib.hid (heap_alloc_new w5 (.cells #[.int .i64 k5, .int .i64 n5, .string ⟨t5.toArray⟩, .slice an5 ln5 cn5, .slice ai5 li5 ci5] 26 (0, 0)))
            have hxlt : w5.heap.size < (w5.alloc (.cells #[.int .i64 k5, .int .i64 n5, .string ⟨t5.toArray⟩, .slice an5 ln5 cn5, .slice ai5 li5 ci5] 26 (0, 0))).heap.size := by simp
            have h5x := (HM.out.keptK hbp (HK4.out.trans K5)).lt
            clear A5 K5 hR5 HRV HK4 HA4
            unfold str
            go_upto_region 20 with fail
            generalize w5.alloc (.cells #[.int .i64 k5, .int .i64 n5, .string ⟨t5.toArray⟩, .slice an5 ln5 cn5, .slice ai5 li5 ci5] 26 (0, 0)) = W at *
            generalize w5.heap.size = bx at *
            have HMW := Lib.hid (HM.out.keptK hbp HKW.out)
            have HNW := Lib.hid (ownsRow_keptK HN1.out HKW.out hB0)
            have HIW := Lib.hid (ownsRow_keptK (ownsRow_keptK HI.out HK1.out hB0) HKW.out hB0)
            have hB := HMW.out.lt
            have hk63 : k ≤ maxLen := by unfold maxLen; omega
            have hk163 : k + 1 ≤ maxLen := by unfold maxLen; omega
            have hn63 : ns.length + 1 ≤ maxLen := by unfold maxLen; omega
            have hkb : k * 16 ≤ 140737488355328 := by omega
            have hkb5 : k * 80 ≤ 140737488355328 := by omega
            have hk1b : (k + 1) * 16 ≤ 140737488355328 := by omega
            have hk1b5 : (k + 1) * 80 ≤ 140737488355328 := by omega
            have hnb1 : (ns.length + 1) * 16 ≤ 140737488355328 := by omega
            have hnb5 : (ns.length + 1) * 80 ≤ 140737488355328 := by omega
            have hv3 := HMW.out.facts.1.2.2.2.1
            obtain ⟨ao1, c1, hr1, hn1, hc1⟩ := cut_h (t := 23) (size := 1) Tryz.underlying23 HI1.out hy1 HNW.out k hkl
            have HR1 := Lib.hid hr1
            have HZ1 := Lib.hid hn1
            have HC1 := Lib.hid hc1
            have HT1 := Lib.hid (show ((ns.map str).take (k * 1)).length = k * 1 by rw [List.length_take, HL1.out]; omega)
            clear hr1 hn1 hc1
            go_wp2_with (first | (refine wpList_slice_h _ rfl 23 _ _ rfl _ _ _ rfl rfl (HR1.out _) ?_) | (at_builtin; refine wpList_append_any _ rfl _ _ 23 rfl W.heap.size 9 i1 (.string ⟨#[]⟩) 1 16 Tryz.underlying23 HI1.out hy0 hy1 hy2 rfl (by decide) (.slice none 0 0) 0 [] rfl (World.ownsRow_nil _ _ _ _) ao1 k c1 ((ns.map str).take (k * 1)) rfl HT1.out HZ1.out HC1.out (ones_take (ones_map ns) _) k (Nat.zero_add k) hk63 hkb (Nat.le_refl _) ?_))
            intro a1 e1 w6 hown1 hgr1 hat1
            have HN6 := Lib.hid hown1
            have HK6 : Hid (KeptB W.heap.size W.heap.size W w6) := KeptB.grown hgr1 (Nat.le_refl _) (fun k hk => by simp [Value.ownBlock] at hk)
            have HM6 := Lib.hid (HMW.out.keptB hB HK6.out)
            have HI6 := Lib.hid (own_same HIW.out (fun b hb => HK6.out.block b (HIW.out.lt b hb).2 (by have := (HIW.out.lt b hb).2; omega)))
            have h6 := HK6.out.size
            clear hown1 hgr1 hat1 hv3 HR1 HZ1 HC1 HT1
            have hv4 := HM6.out.facts.1.2.2.2.2
            obtain ⟨ao2, c2, hr2, hn2, hc2⟩ := cut_h (t := 24) (size := 5) Tryz.underlying24 HI0.out hz1 HI6.out k hkl
            have HR2 := Lib.hid hr2
            have HZ2 := Lib.hid hn2
            have HC2 := Lib.hid hc2
            have HT2 := Lib.hid (show (cs.take (k * 5)).length = k * 5 by rw [List.length_take, HL2.out]; omega)
            clear hr2 hn2 hc2
            go_wp2_with (first | (refine wpList_slice_h _ rfl 24 _ _ rfl _ _ _ rfl rfl (HR2.out _) ?_) | (at_builtin; refine wpList_append_any _ rfl _ _ 24 rfl W.heap.size 26 i0 _ 5 80 Tryz.underlying24 HI0.out hz0 hz1 hz2 rfl (by decide) (.slice none 0 0) 0 [] rfl (World.ownsRow_nil _ _ _ _) ao2 k c2 (cs.take (k * 5)) rfl HT2.out HZ2.out HC2.out (ones_take HONE.out _) k (Nat.zero_add k) hk63 hkb5 h6 ?_))
            intro a2 e2 w7 hown2 hgr2 hat2
            have HI7 := Lib.hid hown2
            have HK7 : Hid (KeptB W.heap.size W.heap.size W w7) := HK6.out.trans (KeptB.grown hgr2 h6 (fun k hk => by simp [Value.ownBlock] at hk))
            have HN7 := Lib.hid (HN6.out.kept hgr2 (own_apart HN6.out (World.ownsRow_nil w6 0 26 5) (by decide)))
            have h7 := HK7.out.size
            clear hown2 hgr2 hat2 hv4 HR2 HZ2 HC2 HT2 HN6 HK6 HM6 HI6 h6
            have HC3 : Hid (∀ a, some (⟨w7.heap.size, 0, none⟩ : Addr) = some a → ∀ j u, [Value.string ⟨name.toArray⟩][j]? = some u → (w7.alloc (.cells #[.string ⟨name.toArray⟩] 9)).cell? (a.add j) = some u) := fun a ha => by
              cases ha; exact World.news_of_block (cs := #[.string ⟨name.toArray⟩]) (t := 9) (fr := (0, 0)) (heap_alloc_new w7 _)
            have hs7 : W.heap.size ≤ (w7.alloc (.cells #[.string ⟨name.toArray⟩] 9)).heap.size := by simp; omega
            have HO3 := Lib.hid (show ∀ u ∈ [Value.string ⟨name.toArray⟩], Value.oneCell' u = true by intro u hu; simp at hu; subst hu; rfl)
            go_wp2_with (at_builtin; refine wpList_append_any _ rfl _ _ 23 rfl W.heap.size 9 i1 (.string ⟨#[]⟩) 1 16 Tryz.underlying23 HI1.out hy0 hy1 hy2 rfl (by decide) (.slice a1 k e1) k _ rfl (HN7.out.alloc _) (some ⟨w7.heap.size, 0, none⟩) 1 1 [.string ⟨name.toArray⟩] rfl rfl (fun h => by cases h) HC3.out HO3.out (k + 1) rfl hk163 hk1b hs7 ?_)
            intro a3 e3 w8 hown3 hgr3 hat3
            have HN8 := Lib.hid hown3
            have HK8 : Hid (KeptB W.heap.size W.heap.size W w8) := (HK7.out.alloc h7 _).trans (KeptB.grown hgr3 hs7 (fun k hk => (HN7.out.lt k hk).1))
            have HI8 := Lib.hid ((HI7.out.alloc _).kept hgr3 (own_apart (HI7.out.alloc (.cells #[.string ⟨name.toArray⟩] 9)) (HN7.out.alloc _) (by decide)))
            have HX8 := Lib.hid ((HK8.out.block bx hxlt (by omega)).trans HXW.out)
            have h8 := HK8.out.size
            clear hown3 hgr3 hat3 HN7 HI7 HK7 HC3 hs7 h7
            obtain ⟨x0, x1, x2, x3, x4⟩ := five_cells HX8.out
            have HC4 : Hid (∀ a, some (⟨w8.heap.size, 0, none⟩ : Addr) = some a → ∀ j u, [Value.int .i64 k5, .int .i64 n5, .string ⟨t5.toArray⟩, .slice an5 ln5 cn5, .slice ai5 li5 ci5][j]? = some u → (w8.alloc (.cells #[.int .i64 k5, .int .i64 n5, .string ⟨t5.toArray⟩, .slice an5 ln5 cn5, .slice ai5 li5 ci5] 26)).cell? (a.add j) = some u) := fun a ha => by
              cases ha; exact World.news_of_block (cs := #[.int .i64 k5, .int .i64 n5, .string ⟨t5.toArray⟩, .slice an5 ln5 cn5, .slice ai5 li5 ci5]) (t := 26) (fr := (0, 0)) (heap_alloc_new w8 _)
            have hs8 : W.heap.size ≤ (w8.alloc (.cells #[.int .i64 k5, .int .i64 n5, .string ⟨t5.toArray⟩, .slice an5 ln5 cn5, .slice ai5 li5 ci5] 26)).heap.size := by simp; omega
            have HO4 := Lib.hid (news5_one k5 n5 t5 an5 ln5 cn5 ai5 li5 ci5)
            go_wp2_with (at_builtin; refine wpList_append_any _ rfl _ _ 24 rfl W.heap.size 26 i0 _ 5 80 Tryz.underlying24 HI0.out hz0 hz1 hz2 rfl (by decide) (.slice a2 k e2) k _ rfl (HI8.out.alloc _) (some ⟨w8.heap.size, 0, none⟩) 1 1 [.int .i64 k5, .int .i64 n5, .string ⟨t5.toArray⟩, .slice an5 ln5 cn5, .slice ai5 li5 ci5] rfl rfl (fun h => by cases h) HC4.out HO4.out (k + 1) rfl hk163 hk1b5 hs8 ?_)
            intro a4 e4 w9 hown4 hgr4 hat4
            have HI9 := Lib.hid hown4
            have HK9 : Hid (KeptB W.heap.size W.heap.size W w9) := (HK8.out.alloc h8 _).trans (KeptB.grown hgr4 hs8 (fun k hk => (HI8.out.lt k hk).1))
            have HN9 := Lib.hid ((HN8.out.alloc _).kept hgr4 (own_apart (HN8.out.alloc (.cells #[.int .i64 k5, .int .i64 n5, .string ⟨t5.toArray⟩, .slice an5 ln5 cn5, .slice ai5 li5 ci5] 26)) (HI8.out.alloc _) (by decide)))
            have HM9 := Lib.hid (HMW.out.keptB hB HK9.out)
            have HS9 := Lib.hid (own_same HNW.out (fun b hb => HK9.out.block b (HNW.out.lt b hb).2 (by have := (HNW.out.lt b hb).2; omega)))
            have h9 := HK9.out.size
            clear hown4 hgr4 hat4 HN8 HI8 HK8 HC4 hs8 h8 x0 x1 x2 x3 x4 HX8
            have hv39 := HM9.out.facts.1.2.2.2.1
            obtain ⟨ao5, c5, hr5, hn5, hc5⟩ := cut_l (t := 23) (size := 1) Tryz.underlying23 HI1.out hy1 HS9.out k hkl
            have HR5 := Lib.hid hr5
            have HZ5 := Lib.hid hn5
            have HC5 := Lib.hid hc5
            have HT5 := Lib.hid (show ((ns.map str).drop (k * 1)).length = (ns.length - k) * 1 by rw [List.length_drop, HL1.out]; omega)
            have HE5 := Lib.hid (show k + 1 + (ns.length - k) = ns.length + 1 by omega)
            clear hr5 hn5 hc5
            go_wp2_with (first | (refine wpList_slice_l _ rfl 23 _ _ rfl _ _ _ rfl rfl (HR5.out _) ?_) | (at_builtin; refine wpList_append_any _ rfl _ _ 23 rfl W.heap.size 9 i1 (.string ⟨#[]⟩) 1 16 Tryz.underlying23 HI1.out hy0 hy1 hy2 rfl (by decide) (.slice a3 (k + 1) e3) (k + 1) _ rfl HN9.out ao5 (ns.length - k) c5 ((ns.map str).drop (k * 1)) rfl HT5.out HZ5.out HC5.out (ones_drop (ones_map ns) _) (ns.length + 1) HE5.out hn63 hnb1 h9 ?_))
            intro a5 e5 w10 hown5 hgr5 hat5
            have HN10 := Lib.hid hown5
            have HK10 : Hid (KeptB W.heap.size W.heap.size W w10) := HK9.out.trans (KeptB.grown hgr5 h9 (fun k hk => (HN9.out.lt k hk).1))
            have HI10 := Lib.hid (HI9.out.kept hgr5 (own_apart HI9.out HN9.out (by decide)))
            have HM10 := Lib.hid (HMW.out.keptB hB HK10.out)
            have h10 := HK10.out.size
            clear hown5 hgr5 hat5 HN9 HI9 HK9 HM9 HS9 h9 hv39 HR5 HZ5 HC5 HT5
            have hv3c := HM10.out.facts.1.2.2.2.1
            have hv3f := HM10.out.facts.2.2.2.1
            have HM10' := Lib.hid (HM10.out.set3 (.slice a5 (ns.length + 1) e5))
            have HS10 := Lib.hid (own_same (w' := w10.setCell ⟨w.heap.size, 3, none⟩ (.slice a5 (ns.length + 1) e5)) HIW.out (fun b hb => by
              rw [heap_set_far _ _ _ _ (fun e => by have h1 := (HIW.out.lt b hb).1; have h2 := HMW.out.lt; have h3 := (HI.out.lt b hb).2; omega)]
              exact HK10.out.block b (HIW.out.lt b hb).2 (by have := (HIW.out.lt b hb).2; omega)))
            have HN10' := Lib.hid (ownsRow_setCell_below (a := ⟨w.heap.size, 3, none⟩) HN10.out (show w.heap.size < W.heap.size by omega) (.slice a5 (ns.length + 1) e5))
            have HI10' := Lib.hid (ownsRow_setCell_below (a := ⟨w.heap.size, 3, none⟩) HI10.out (show w.heap.size < W.heap.size by omega) (.slice a5 (ns.length + 1) e5))
            have HA10' := Lib.hid (RAt.setOther (b := w.heap.size) (o := 3) (RAt.keptB HAW.out HK10.out (by omega)) (by omega) (.slice a5 (ns.length + 1) e5))
            have h10' : W.heap.size ≤ (w10.setCell ⟨w.heap.size, 3, none⟩ (.slice a5 (ns.length + 1) e5)).heap.size := by rw [size_set]; exact h10
            clear HN10 HI10 HK10 HM10 h10
            go_upto_region 25 with fail
            generalize w10.setCell ⟨w.heap.size, 3, none⟩ (.slice a5 (ns.length + 1) e5) = wa at *
            clear hv3c hv3f
            have hv4a := HM10'.out.facts.1.2.2.2.2
            obtain ⟨ao6, c6, hr6, hn6, hc6⟩ := cut_l (t := 24) (size := 5) Tryz.underlying24 HI0.out hz1 HS10.out k hkl
            have HR6 := Lib.hid hr6
            have HZ6 := Lib.hid hn6
            have HC6 := Lib.hid hc6
            have HT6 := Lib.hid (show (cs.drop (k * 5)).length = (ns.length - k) * 5 by rw [List.length_drop, HL2.out]; omega)
            clear hr6 hn6 hc6
            go_wp2_with (first | (refine wpList_slice_l _ rfl 24 _ _ rfl _ _ _ rfl rfl (HR6.out _) ?_) | (at_builtin; refine wpList_append_any _ rfl _ _ 24 rfl W.heap.size 26 i0 _ 5 80 Tryz.underlying24 HI0.out hz0 hz1 hz2 rfl (by decide) (.slice a4 (k + 1) e4) (k + 1) _ rfl HI10'.out ao6 (ns.length - k) c6 (cs.drop (k * 5)) rfl HT6.out HZ6.out HC6.out (ones_drop HONE.out _) (ns.length + 1) HE5.out hn63 hnb5 h10' ?_))
            intro a6 e6 w11 hown6 hgr6 hat6
            have HI11 := Lib.hid hown6
            have HKa : Hid (KeptB W.heap.size W.heap.size wa w11) := KeptB.grown hgr6 h10' (fun k hk => (HI10'.out.lt k hk).1)
            have HN11 := Lib.hid (HN10'.out.kept hgr6 (own_apart HN10'.out HI10'.out (by decide)))
            have HM11 := Lib.hid (HM10'.out.keptB hB HKa.out)
            have HA11 := Lib.hid (RAt.keptB HA10'.out HKa.out (by omega))
            clear hown6 hgr6 hat6 HN10' HI10' HM10' HS10 hv4a HR6 HZ6 HC6 HT6 HA10' HKa
            have hv4c := HM11.out.facts.1.2.2.2.2
            have hv4f := HM11.out.facts.2.2.2.2
            have HM12 := Lib.hid (HM11.out.set4 (.slice a6 (ns.length + 1) e6))
            have HN12 := Lib.hid (ownsRow_setCell_below (a := ⟨w.heap.size, 4, none⟩) HN11.out (show w.heap.size < W.heap.size by omega) (.slice a6 (ns.length + 1) e6))
            have HI12 := Lib.hid (ownsRow_setCell_below (a := ⟨w.heap.size, 4, none⟩) HI11.out (show w.heap.size < W.heap.size by omega) (.slice a6 (ns.length + 1) e6))
            have HA12 := Lib.hid (RAt.setOther (b := w.heap.size) (o := 4) HA11.out (by omega) (.slice a6 (ns.length + 1) e6))
            clear HN11 HI11 HM11 HA11
            go_upto_region 26 with fail
            generalize w11.setCell ⟨w.heap.size, 4, none⟩ (.slice a6 (ns.length + 1) e6) = wb at *
            clear hv4c hv4f
            obtain ⟨⟨v0, v1, v2, v3, v4⟩, ⟨r0, r1, r2, r3, r4⟩, ⟨f0, f1, f2, f3, f4⟩, _⟩ := HM12.out.facts
            go_wp2_with fail
            refine bodyPost_ret (by simp [results, Tryz.results73, go_sem, r0, r1, r2, r3, r4]; try rfl) rfl ?_
            obtain ⟨q1, q2⟩ := HM12.out.five hbp HA12.out (.int .i64 6) (.int .i64 0) (.string ⟨#[]⟩) (.slice a5 (ns.length + 1) e5) (.slice a6 (ns.length + 1) e6)
            have sets : ∀ b, W.heap.size ≤ b → (setFive wb (w.heap.size + 1) (.int .i64 6) (.int .i64 0) (.string ⟨#[]⟩) (.slice a5 (ns.length + 1) e5) (.slice a6 (ns.length + 1) e6)).heap[b]? = wb.heap[b]? := fun b hb => setFive_far _ _ _ _ _ _ trivial (by omega)
            refine .inl ⟨name, k, a5, e5, a6, e6, _, jv, j5, by omega, hj5, HPN.out.1, HPN.out.2, ⟨rfl, q2, q1⟩, ?_, own_le (own_same HI12.out (fun b hb => sets b (HI12.out.lt b hb).1)) (by omega), ?_, HRE.out⟩
            · have := own_le (own_same HN12.out (fun b hb => sets b (HN12.out.lt b hb).1)) (show w.heap.size ≤ W.heap.size by omega)
              rw [show (ns.take k ++ [name] ++ ns.drop k).map str = (ns.map str).take k ++ Value.string ⟨name.toArray⟩ :: (ns.map str).drop k by simp [List.map_take, List.map_drop, str]]
              exact this
            · intro u hu
              have h4 := ones_append (ones_append (ones_take HONE.out (k * 5)) HO4.out) (ones_drop HONE.out (k * 5))
              exact h4 u (by simpa [str] using hu)
          · have HRF : Hid (∀ (mem : List (Bs × JV)) (K : List Fr), (∀ x, x ∈ ns ↔ x ∈ mem.map (·.1)) → K.length + 1 = d → R (L s) i ⟨.key, .obj mem :: K⟩ = .bad q p) := fun mem K hm hK => by
              rw [HRV.out mem K hm hK, hR5 (.objv mem name :: K) (by simp [hK])]
            have HA5 := Lib.hid (A5.alloc (.cells #[.int .i64 k5, .int .i64 n5, .string ⟨t5.toArray⟩, .slice an5 ln5 cn5, .slice ai5 li5 ci5] 26 (0, 0)))
            have HM5 := Lib.hid (HM.out.keptK hbp ((HK4.out.trans K5).alloc (.cells #[.int .i64 k5, .int .i64 n5, .string ⟨t5.toArray⟩, .slice an5 ln5 cn5, .slice ai5 li5 ci5] 26 (0, 0))))
            obtain ⟨⟨v0, v1, v2, v3, v4⟩, ⟨r0, r1, r2, r3, r4⟩, ⟨f0, f1, f2, f3, f4⟩, _⟩ := HM5.out.facts
            clear A5 K5 hR5 HRV
            unfold str
            go_wp2_with fail
            refine bodyPost_ret (by simp [results, Tryz.results73, go_sem, r0, r1, r2, r3, r4]; try rfl) rfl ?_
            obtain ⟨q1, q2⟩ := HM5.out.five hbp HA5.out (.int .i64 6) (.int .i64 0) (.string ⟨#[]⟩) (.slice an ns.length cn) (.slice ai ns.length ci)
            exact .inr ⟨q, p, hp, ⟨rfl, ⟨_, q2⟩, q1⟩, HRF.out⟩
        · have H58 := Lib.hid h58
          have HA3 := Lib.hid A3
          have HM3 := Lib.hid (HM.out.keptK hbp (HK2.out.trans K3))
          obtain ⟨⟨v0, v1, v2, v3, v4⟩, ⟨r0, r1, r2, r3, r4⟩, ⟨f0, f1, f2, f3, f4⟩, _⟩ := HM3.out.facts
          clear h58 A3 K3
          go_wp2_with fail
          refine bodyPost_ret (by simp [results, Tryz.results73, go_sem, r0, r1, r2, r3, r4]; try rfl) rfl ?_
          obtain ⟨q1, q2⟩ := HM3.out.five hbp HA3.out (.int .i64 6) (.int .i64 0) (.string ⟨#[]⟩) (.slice an ns.length cn) (.slice ai ns.length ci)
          refine .inr ⟨40, j2, hj2s, ⟨rfl, ⟨_, q2⟩, q1⟩, fun mem K hm hK => ?_⟩
          rw [HRJ.out mem K hm hK, colon_bad fun c hc => ⟨HB2.out.2.2.2 c hc, fun e => H58.out (by rw [hc, e])⟩]
          rfl
  · have HA1 := Lib.hid A1
    have HQ := Lib.hid hq
    have HM := Lib.hid (MB.start hbp K1)
    obtain ⟨⟨v0, v1, v2, v3, v4⟩, ⟨r0, r1, r2, r3, r4⟩, ⟨f0, f1, f2, f3, f4⟩, _⟩ := HM.out.facts
    clear A1 K1 hq
    go_wp2_with fail
    refine bodyPost_ret (by simp [results, Tryz.results73, go_sem, r0, r1, r2, r3, r4]; try rfl) rfl ?_
    obtain ⟨q1, q2⟩ := HM.out.five hbp HA1.out (.int .i64 6) (.int .i64 0) (.string ⟨#[]⟩) (.slice an ns.length cn) (.slice ai ns.length ci)
    refine .inr ⟨40, i, hi, ⟨rfl, ⟨_, q2⟩, q1⟩, fun mem K hm hK => ?_⟩
    rw [key_bad fun c hc => ⟨HNB.out c hc, fun e => HQ.out (by rw [hc, e])⟩]
    rfl
  · have HA1 := Lib.hid A1
    have HQ := Lib.hid hq
    have HR := Lib.hid hR
    have HM := Lib.hid (MB.start hbp K1)
    obtain ⟨⟨v0, v1, v2, v3, v4⟩, ⟨r0, r1, r2, r3, r4⟩, ⟨f0, f1, f2, f3, f4⟩, _⟩ := HM.out.facts
    clear A1 K1 hq hR
    go_wp2_with fail
    refine bodyPost_ret (by simp [results, Tryz.results73, go_sem, r0, r1, r2, r3, r4]; try rfl) rfl ?_
    obtain ⟨q1, q2⟩ := HM.out.five hbp HA1.out (.int .i64 6) (.int .i64 0) (.string ⟨#[]⟩) (.slice an ns.length cn) (.slice ai ns.length ci)
    refine .inr ⟨40, p, hp, ⟨rfl, ⟨_, q2⟩, q1⟩, fun mem K hm hK => ?_⟩
    rw [key_quote HQ.out, HR.out true (.obj mem :: K)]
    rfl

end Jot
end Go.Proofs.YthgcnmdnjfajbaaGreatDoor
