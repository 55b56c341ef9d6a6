/- Walk of slices.SortFunc at the members of package jot, and of the closure that it is handed. Conditions: a row of members that the caller owns, their names differ. -/
import Derived.Test.YthgcnmdnjfajbaaGreatDoorJotSortL
import Derived.Test.YthgcnmdnjfajbaaGreatDoorJotVal
import Derived.Test.YthgcnmdnjfajbaaGreatDoorSort
import Derived.Test.YthgcnmdnjfajbaaGreatDoorShelf
import Derived.Sort.OwnSorted
namespace Go.Proofs.YthgcnmdnjfajbaaGreatDoor
open Go.RowKit
namespace Jot
open Go.Lib (compareBytes)
open Go.Sort (PermIn SortedIn HoldsK flatK putRowK grow grow_grow alloc_eq_grow SWO)

/-- The cells of members whose values are given by name. -/
def encM (val : Bs → Value) (n : Bs) : List Value := [.string ⟨n.toArray⟩, val n]

theorem IsMems.fn {w : World} {P : Nat → Prop} : ∀ (l : List (Bs × JV)) (vs : List Value), IsMems w P l vs → (l.map (·.1)).Nodup →
    ∃ val : Bs → Value, (∀ n, ∃ t x, val n = .iface t x) ∧ vs = (l.map (·.1)).flatMap (encM val) ∧ ∀ p ∈ l, IsVal w P p.2 (val p.1)
  | [], vs, h, _ => by
    simp only [IsMems] at h; subst h
    exact ⟨fun _ => .iface 0 .nilIface, fun _ => ⟨_, _, rfl⟩, rfl, by simp⟩
  | (n, j) :: l, vs, h, hn => by
    simp only [IsMems] at h
    obtain ⟨v, r, rfl, h1, h2⟩ := h
    simp only [List.map_cons, List.nodup_cons] at hn
    obtain ⟨val, hi, rfl, hv⟩ := IsMems.fn l r h2 hn.2
    have hif : ∃ t x, v = .iface t x := by
      cases j <;> simp only [IsVal] at h1
      case list => obtain ⟨sl, vs, rfl, _⟩ := h1; exact ⟨_, _, rfl⟩
      case obj => obtain ⟨sl, vs, rfl, _⟩ := h1; exact ⟨_, _, rfl⟩
      all_goals exact ⟨_, _, h1⟩
    refine ⟨fun m => if m = n then v else val m, fun m => ?_, ?_, ?_⟩
    · by_cases hm : m = n
      · simp only [hm, if_true]; exact hif
      · simp only [hm, if_false]; exact hi m
    · simp only [List.map_cons, List.flatMap_cons, encM, if_true, List.cons_append, List.nil_append, List.cons.injEq, true_and]
      rw [List.flatMap_def, List.flatMap_def]
      congr 1
      refine List.map_congr_left fun m hm => ?_
      have : m ≠ n := fun e => hn.1 (e ▸ hm)
      simp [encM, this]
    · intro p hp
      rcases List.mem_cons.1 hp with rfl | hp
      · simpa using h1
      · have : p.1 ≠ n := fun e => hn.1 (e ▸ List.mem_map_of_mem hp)
        simp only [this, if_false]
        exact hv p hp

theorem IsMems.of_fn {w : World} {P : Nat → Prop} (val : Bs → Value) : ∀ (l : List (Bs × JV)), (∀ p ∈ l, IsVal w P p.2 (val p.1)) → IsMems w P l ((l.map (·.1)).flatMap (encM val))
  | [], _ => by simp [IsMems]
  | (n, j) :: l, h => by
    simp only [List.map_cons, List.flatMap_cons, IsMems, encM, List.cons_append, List.nil_append]
    exact ⟨val n, _, rfl, h (n, j) (List.mem_cons_self ..), IsMems.of_fn val l fun p hp => h p (List.mem_cons_of_mem _ hp)⟩

theorem flat_len (val : Bs → Value) (l : List Bs) : (l.flatMap (encM val)).length = l.length * 2 := by
  induction l with
  | nil => rfl
  | cons a l ih => simp [encM, ih]; omega

theorem flat_get (val : Bs → Value) : ∀ (l : List Bs) (t : Nat), t < l.length * 2 → (l.flatMap (encM val))[t]! = (encM val l[t / 2]!)[t % 2]!
  | [], t, h => by simp at h
  | a :: l, 0, _ => by simp [encM]
  | a :: l, 1, _ => by simp [encM]
  | a :: l, t + 2, h => by
    have := flat_get val l t (by simp at h; omega)
    rw [show (t + 2) / 2 = t / 2 + 1 by omega, show (t + 2) % 2 = t % 2 by omega]
    simpa [encM] using this

theorem flatK_list (val : Bs → Value) (l : List Bs) : flatK (encM val) 2 l.toArray = (l.flatMap (encM val)).toArray := by
  refine Sort.ext_get! (by rw [Sort.size_flatK, List.size_toArray, List.size_toArray, flat_len]) fun t ht => ?_
  rw [Sort.get_flatK _ _ _ _ (by simpa using ht)]
  have hl : t < l.length * 2 := by simpa using ht
  have h1 := flat_get val l t hl
  have e1 : l.toArray[t / 2]! = l[t / 2]! := by simp
  have e2 : (l.flatMap (encM val)).toArray[t]! = (l.flatMap (encM val))[t]! := by simp
  rw [e1, e2, h1]

set_option maxHeartbeats 400000 in
theorem cmp_any (a b : Bs) (va vb : Value) (W : World) :
    Calls Tryz.prog 46 #[.agg #[.string ⟨a.toArray⟩, va], .agg #[.string ⟨b.toArray⟩, vb]] W fun e w' => e = .returned (.int .i64 (compareBytes a b)) ∧ ∃ q os', w' = grow (W.drewN q) os' := by
  have hcon := fun W' => Tryz.strings_Compare ⟨a.toArray⟩ ⟨b.toArray⟩ W'
  go_enter Tryz.func46, Tryz.ntmps46
  go_wp2_with (go_at_call 47; refine (hcon _).mono ?_; rintro e w' ⟨rfl, rfl⟩)
  go_ret
  exact ⟨rfl, 0, _, by rw [alloc_eq_grow, alloc_eq_grow, grow_grow]; rfl⟩

theorem cmpLays (val : Bs → Value) (blk off size : Nat) (w : World) : CmpLays Tryz.prog 46 #[] (encM val) 2 (fun a b => compareBytes a b) blk off size w :=
  fun _ _ _ _ x y => cmp_any x y _ _ _

theorem aggMember (w : World) : (isAgg 81).run Tryz.prog w = .ok true w := by kernel_rfl
theorem sizeMember (w : World) : (Go.sizeOf 81).run Tryz.prog w = .ok 2 w := by kernel_rfl

theorem swoM : SWO (ltOf fun a b : Bs => compareBytes a b) := swo_cb

set_option maxRecDepth 100000 in
set_option maxHeartbeats 1000000 in
/-- SortFunc at a row of members. -/
theorem sortFunc_any (val : Bs → Value) (hval : ∀ n, ∃ t x, val n = .iface t x) (blk cap : Nat) (l : List Bs) (w : World) (hH : HoldsK (encM val) 2 w blk 0 l.toArray) (hblk : blk < w.heap.size) (hsz : l.length < 100000) :
    Calls Tryz.prog 45 #[.slice (some ⟨blk, 0, none⟩) l.length cap, .func (.func 46) #[] #[]] w fun e w' =>
      e = .returned (.tuple #[]) ∧ ∃ d' n os, PermIn 0 l.length l.toArray d' ∧ SortedIn (ltOf fun a b : Bs => compareBytes a b) 0 l.length d' ∧ w' = sortWorldK (encM val) 2 w blk 0 n d' os := by
  have eg : ∀ args w, (callFunc 46 args).run Tryz.prog w = .ok (.enter 46 args) w := enters_of Tryz.func46 (by kernel_rfl) rfl
  have h1 : ∀ x, ∀ v ∈ encM val x, v.oneCell' = true := by
    intro x v hv
    simp only [encM, List.mem_cons, List.mem_nil_iff, or_false] at hv
    rcases hv with rfl | rfl
    · rfl
    · obtain ⟨t, y, h⟩ := hval x; rw [h]; rfl
  have hlim : Lib.bitLen l.length < 4611686018427387904 := Nat.lt_of_le_of_lt (Lib.bitLen_le l.length 62 (by omega) (by omega)) (by omega)
  have hp := AnyQ.pdqsortCmpFunc_all Tryz.sortMem 2 aggMember sizeMember (encM val) (fun a b => compareBytes a b) 46 #[] swoM blk 0 cap l.toArray w eg (cmpLays val blk 0 _ w) ⟨fun _ => rfl, h1, hH, hblk⟩
    (l.length + 1) 0 l.length (Lib.bitLen l.length) l.toArray w (by omega) rfl (SWK.start hH) (Nat.zero_le _) (by simp) (by simp; omega) hlim (Or.inl rfl)
  have hp' : Calls Tryz.prog 64 #[.slice (some ⟨blk, 0, none⟩) l.length cap, .int .i64 0, .int .i64 l.length, .int .i64 (Lib.bitLen l.length : Nat), .func (.func 46) #[] #[]] w fun e w' =>
      e = .returned (.tuple #[]) ∧ ∃ n os, w' = sortWorldK (encM val) 2 w blk 0 n (Sort.pdq (ltOf fun a b : Bs => compareBytes a b) l.toArray 0 l.length (Lib.bitLen l.length) true true) os := by
    have h := hp
    simp at h
    exact h
  have hsort := Sort.pdq_sorts (ltOf fun a b : Bs => compareBytes a b) swoM l.toArray 0 l.length (Lib.bitLen l.length) true true (Nat.zero_le _) (by simp) (Or.inl rfl)
  have hl : Calls Tryz.prog 65 #[.int .u64 (l.length : Int)] w fun e w' => e = .returned (.int .i64 (Lib.bitLen l.length : Nat)) ∧ w' = w := by
    have h := Tryz.bits_Len (l.length : Int) w (by omega) (by omega)
    rwa [Int.toNat_natCast] at h
  have wr : IntKind.u64.wrap (l.length : Int) = l.length := by simp [IntKind.wrap, IntKind.bits, IntKind.signed]; omega
  have HP := Lib.hid hp'
  have HL := Lib.hid hl
  have HS := Lib.hid hsort
  clear hp hp' hl hsort hH hlim h1 eg
  go_enter Tryz.func45, Tryz.ntmps45
  go_wp2_with fail
  refine (HL.out).mono ?_
  rintro e w' ⟨rfl, rfl⟩
  go_wp2_with fail
  refine (HP.out).mono ?_
  rintro e w' ⟨rfl, n, os, rfl⟩
  go_wp2_with fail
  go_end0
  exact ⟨rfl, _, n, os, HS.out.1, HS.out.2, rfl⟩

theorem heap_put {w : World} {g n : Nat} {F : Array Value} {os : Array Obj} {cur : Array Value} {e : TypeId} (h : w.heap[g]? = some (.cells cur e (0, 0))) :
    (grow (Sort.putRow id (Sort.ahead w n) g 0 F) os).heap[g]? = some (.cells (Sort.putCells id 0 F cur) e (0, 0)) := by
  have hlt := (Array.getElem?_eq_some_iff.1 h).1
  rw [Sort.heap_grow_old _ _ (by simpa using hlt)]
  simp [Sort.putRow, Sort.mapBlock, Sort.ahead, Array.getElem?_modify, h, Sort.onCells]

theorem take_put (cur F : Array Value) (h : F.size ≤ cur.size) : (Sort.putCells id 0 F cur).toList.take F.size = F.toList := by
  apply List.ext_getElem?
  intro j
  by_cases hj : j < F.size
  · rw [List.getElem?_take_of_lt hj, Array.getElem?_toList, Array.getElem?_toList]
    simp [Sort.putCells, hj, show j < cur.size by omega]
  · rw [List.getElem?_take_eq_none (by omega), List.getElem?_eq_none (by simp; omega)]

theorem grownBy_put {w : World} {g n : Nat} {os : Array Obj} (F : Array Value) : w.grownBy (grow (Sort.putRow id (Sort.ahead w n) g 0 F) os) (some g) := by
  refine ⟨rfl, rfl, rfl, by simp, fun k hk hne => ?_⟩
  rw [Sort.heap_grow_old _ _ (by simpa using hk)]
  have : g ≠ k := fun e => hne (by rw [e])
  simp [Sort.putRow, Sort.mapBlock, Sort.ahead, Array.getElem?_modify, this]

theorem sort_own (B : Nat) (v : Value) (mems : List (Bs × JV)) (vs : List Value) (w : World) (P : Nat → Prop) (hO : w.ownsRow B 81 2 v mems.length vs) (hI : IsMems w P mems vs)
    (hP : ∀ b, P b → some b ≠ v.ownBlock) (hn : (mems.map (·.1)).Nodup) (hne : mems ≠ []) (hsz : mems.length < 100000) :
    Calls Tryz.prog 45 #[v, .func (.func 46) #[] #[]] w fun e w' =>
      e = .returned (.tuple #[]) ∧ ∃ vs', w'.ownsRow B 81 2 v mems.length vs' ∧ IsMems w' P (sortMem mems) vs' ∧ w.grownBy w' v.ownBlock := by
  obtain ⟨val, hval, rfl, hv⟩ := IsMems.fn mems vs hI hn
  rcases hO.2 with ⟨rfl, h0⟩ | ⟨g, cap, cur, rfl, hg, hh, hc, hm, hs, ht⟩
  · exact absurd (List.eq_nil_of_length_eq_zero h0) hne
  have hlt := (Array.getElem?_eq_some_iff.1 hh).1
  have hln : (mems.map (·.1)).length = mems.length := List.length_map _
  have hH : HoldsK (encM val) 2 w g 0 (mems.map (·.1)).toArray := by
    intro j hj
    rw [flatK_list, List.size_toArray, flat_len, hln] at hj
    have e1 : (flatK (encM val) 2 (mems.map (·.1)).toArray)[j]! = ((mems.map (·.1)).flatMap (encM val))[j]! := by rw [flatK_list]; simp
    rw [e1, ← ht, Nat.zero_add]
    have hjc : j < cur.size := by rw [hs]; have := Nat.mul_le_mul_right 2 hc; omega
    refine ⟨?_, by simp [World.frozen?, hh]⟩
    have hjl : j < cur.toList.length := by simpa using hjc
    simp [World.cell?, hh, List.getElem!_eq_getElem?_getD, List.getElem?_take_of_lt hj, hjc]
  have hcall := sortFunc_any val hval g cap (mems.map (·.1)) w hH hlt (by rw [hln]; exact hsz)
  rw [hln] at hcall
  refine hcall.mono fun e w' hw => ?_
  obtain ⟨rfl, d', n, os, hp, hso, rfl⟩ := hw
  obtain ⟨hps, _, hpp⟩ := hp
  have hds : d'.size = mems.length := by rw [hps, List.size_toArray, hln]
  have e1 : d'.extract 0 mems.length = d' := by rw [← hds]; exact Array.extract_size
  have e2 : ((mems.map (·.1)).toArray).extract 0 mems.length = (mems.map (·.1)).toArray := by
    rw [← hln, ← List.size_toArray]; exact Array.extract_size
  rw [e1, e2] at hpp
  have hd : d'.toList = (sortMem mems).map (·.1) := by
    refine names_sorted mems hn d'.toList (by simpa using hpp) ?_
    rw [List.pairwise_iff_getElem]
    intro i j hi hj hij
    have := hso i j (Nat.zero_le _) hij (by rw [← hds]; simpa using hj)
    have hi' : i < d'.size := by simpa using hi
    have hj' : j < d'.size := by simpa using hj
    rw [getElem!_pos d' i hi', getElem!_pos d' j hj'] at this
    simp only [ltOf, decide_eq_false_iff_not] at this
    simpa using this
  have hd' : d' = ((sortMem mems).map (·.1)).toArray := by rw [← hd]
  have hF : flatK (encM val) 2 d' = (((sortMem mems).map (·.1)).flatMap (encM val)).toArray := by rw [hd', flatK_list]
  have hlS : (sortMem mems).length = mems.length := (perm_sort mems).length_eq
  have hfl : (((sortMem mems).map (·.1)).flatMap (encM val)).length = mems.length * 2 := by rw [flat_len, List.length_map, hlS]
  have hgr : w.grownBy (sortWorldK (encM val) 2 w g 0 n d' os) (some g) := grownBy_put _
  refine ⟨rfl, ((sortMem mems).map (·.1)).flatMap (encM val), ⟨hfl, .inr ⟨g, cap, _, rfl, hg, heap_put hh, hc, hm, by simp [Sort.putCells, hs], ?_⟩⟩, ?_, hgr⟩
  · have h1 := take_put cur (flatK (encM val) 2 d') (by rw [Sort.size_flatK, hds, hs]; omega)
    rw [Sort.size_flatK, hds] at h1
    rw [h1, hF]
  · refine IsMems.of_fn val _ fun p hp => ?_
    have hp' : p ∈ mems := (perm_sort mems).mem_iff.1 hp
    refine IsVal.move (fun b hb _ => ⟨?_, hb⟩) _ _ (hv p hp')
    exact hgr.block b (by assumption) (hP b hb)

#print axioms sort_own

end Jot
end Go.Proofs.YthgcnmdnjfajbaaGreatDoor
