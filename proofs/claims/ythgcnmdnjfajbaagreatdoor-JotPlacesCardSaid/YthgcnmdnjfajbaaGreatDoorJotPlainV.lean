/- Plain laws of the machine of JotSpec for lists, objects and values. Conditions: none. -/
import Derived.Test.YthgcnmdnjfajbaaGreatDoorJotPlainT
namespace Go.Proofs.YthgcnmdnjfajbaaGreatDoor.Jot

section
variable {l : Bs} {i j : Nat} {k : List Fr}

theorem val_word {c : UInt8} {ws : Bs} {v : JV} (hc : l[i]? = some c) (hd : ∀ k, dVal c k = .go ⟨.word ws v, k⟩) (k : List Fr) : R l i ⟨.val, k⟩ = R l (i + 1) ⟨.word ws v, k⟩ := by
  rw [R_go hc]; exact hd k

theorem val_end (h : l.length ≤ i) (k : List Fr) : R l i ⟨.val, k⟩ = .bad eForm i := by rw [R_end h]; simp [eof]

theorem val_quote (hc : l[i]? = some 34) (k : List Fr) : R l i ⟨.val, k⟩ = R l (i + 1) ⟨.text false .plain [], k⟩ := by
  rw [R_go hc]; simp [δ, dVal, isBlank]

theorem text_close {acc : Bs} (hc : l[j]? = some 34) (k : List Fr) : R l j ⟨.text false .plain acc, k⟩ = R l (j + 1) ⟨.after (.text acc), k⟩ := by
  rw [R_go hc]; simp [δ, dText]

theorem name_close {acc : Bs} {mem : List (Bs × JV)} (hc : l[j]? = some 34) (hn : acc ∉ mem.map (·.1)) (k : List Fr) :
    R l j ⟨.text true .plain acc, .obj mem :: k⟩ = R l (j + 1) ⟨.colon, .objv mem acc :: k⟩ := by
  rw [R_go hc (s' := ⟨.colon, .objv mem acc :: k⟩)]
  simp only [δ, dText, if_true]
  rw [if_neg hn]

theorem name_twice {acc : Bs} {mem : List (Bs × JV)} (hc : l[j]? = some 34) (hn : acc ∈ mem.map (·.1)) (k : List Fr) :
    R l j ⟨.text true .plain acc, .obj mem :: k⟩ = .bad eName j := by
  rw [R_bad hc (e := eName)]
  simp only [δ, dText, if_true]
  rw [if_pos hn]

theorem arr_open (hc : l[i]? = some 91) (k : List Fr) (hd : k.length < 16) : R l i ⟨.val, k⟩ = R l (i + 1) ⟨.arr0, .arr [] :: k⟩ := by
  rw [R_go hc (s' := ⟨.arr0, .arr [] :: k⟩)]
  have : ¬ k.length = 16 := by omega
  simp [δ, dVal, isBlank, maxDeep, this]

theorem arr_deep (hc : l[i]? = some 91) (k : List Fr) (hd : k.length = 16) : R l i ⟨.val, k⟩ = .bad eDeep i := by
  rw [R_bad hc (e := eDeep)]
  simp [δ, dVal, isBlank, maxDeep, hd]

theorem obj_open (hc : l[i]? = some 123) (k : List Fr) (hd : k.length < 16) : R l i ⟨.val, k⟩ = R l (i + 1) ⟨.obj0, .obj [] :: k⟩ := by
  rw [R_go hc (s' := ⟨.obj0, .obj [] :: k⟩)]
  have : ¬ k.length = 16 := by omega
  simp [δ, dVal, isBlank, maxDeep, this]

theorem obj_deep (hc : l[i]? = some 123) (k : List Fr) (hd : k.length = 16) : R l i ⟨.val, k⟩ = .bad eDeep i := by
  rw [R_bad hc (e := eDeep)]
  simp [δ, dVal, isBlank, maxDeep, hd]

theorem arr0_close (hc : l[i]? = some 93) (f : Fr) (k : List Fr) : R l i ⟨.arr0, f :: k⟩ = R l (i + 1) ⟨.after (.list []), k⟩ := by
  rw [R_go hc (s' := ⟨.after (.list []), k⟩)]; simp [δ, isBlank]

theorem arr0_val {c : UInt8} (hc : l[i]? = some c) (hb : isBlank c = false) (h : c ≠ 93) (k : List Fr) : R l i ⟨.arr0, k⟩ = R l i ⟨.val, k⟩ := by
  rw [R_at hc, R_at hc]; simp [δ, hb, h]

theorem arr0_end (h : l.length ≤ i) (k : List Fr) : R l i ⟨.arr0, k⟩ = .bad eForm i := by rw [R_end h]; simp [eof]

theorem obj0_close (hc : l[i]? = some 125) (f : Fr) (k : List Fr) : R l i ⟨.obj0, f :: k⟩ = R l (i + 1) ⟨.after (.obj []), k⟩ := by
  rw [R_go hc (s' := ⟨.after (.obj []), k⟩)]; simp [δ, isBlank]

theorem obj0_key {c : UInt8} (hc : l[i]? = some c) (hb : isBlank c = false) (h : c ≠ 125) (k : List Fr) : R l i ⟨.obj0, k⟩ = R l i ⟨.key, k⟩ := by
  rw [R_at hc, R_at hc]; simp [δ, hb, h]

theorem obj0_end (h : l.length ≤ i) (k : List Fr) : R l i ⟨.obj0, k⟩ = .bad eForm i := by rw [R_end h]; simp [eof]

theorem key_quote (hc : l[i]? = some 34) (k : List Fr) : R l i ⟨.key, k⟩ = R l (i + 1) ⟨.text true .plain [], k⟩ := by
  rw [R_go hc]; simp [δ, isBlank]

theorem key_bad (hc : ∀ c, l[i]? = some c → isBlank c = false ∧ c ≠ 34) (k : List Fr) : R l i ⟨.key, k⟩ = .bad eForm i := by
  cases h : l[i]? with
  | none => rw [R_end (List.getElem?_eq_none_iff.1 h)]; simp [eof]
  | some c => obtain ⟨h1, h2⟩ := hc c h; rw [R_bad h (e := eForm)]; simp [δ, h1, h2]

theorem colon_go (hc : l[i]? = some 58) (k : List Fr) : R l i ⟨.colon, k⟩ = R l (i + 1) ⟨.val, k⟩ := by
  rw [R_go hc]; simp [δ, isBlank]

theorem colon_bad (hc : ∀ c, l[i]? = some c → isBlank c = false ∧ c ≠ 58) (k : List Fr) : R l i ⟨.colon, k⟩ = .bad eForm i := by
  cases h : l[i]? with
  | none => rw [R_end (List.getElem?_eq_none_iff.1 h)]; simp [eof]
  | some c => obtain ⟨h1, h2⟩ := hc c h; rw [R_bad h (e := eForm)]; simp [δ, h1, h2]

theorem arr_comma {v : JV} {its : List JV} (hc : l[i]? = some 44) (k : List Fr) : R l i ⟨.after v, .arr its :: k⟩ = R l (i + 1) ⟨.val, .arr (its ++ [v]) :: k⟩ := by
  rw [R_go hc]; simp [δ, dAfter, isBlank]

theorem arr_close {v : JV} {its : List JV} (hc : l[i]? = some 93) (k : List Fr) : R l i ⟨.after v, .arr its :: k⟩ = R l (i + 1) ⟨.after (.list (its ++ [v])), k⟩ := by
  rw [R_go hc]; simp [δ, dAfter, isBlank]

theorem arr_bad {v : JV} {its : List JV} (hc : ∀ c, l[i]? = some c → isBlank c = false ∧ c ≠ 44 ∧ c ≠ 93) (k : List Fr) : R l i ⟨.after v, .arr its :: k⟩ = .bad eForm i := by
  cases h : l[i]? with
  | none => rw [R_end (List.getElem?_eq_none_iff.1 h)]; simp [eof]
  | some c => obtain ⟨h1, h2, h3⟩ := hc c h; rw [R_bad h (e := eForm)]; simp [δ, dAfter, h1, h2, h3]

theorem obj_comma {v : JV} {mem : List (Bs × JV)} {n : Bs} (hc : l[i]? = some 44) (k : List Fr) : R l i ⟨.after v, .objv mem n :: k⟩ = R l (i + 1) ⟨.key, .obj (mem ++ [(n, v)]) :: k⟩ := by
  rw [R_go hc]; simp [δ, dAfter, isBlank]

theorem obj_close {v : JV} {mem : List (Bs × JV)} {n : Bs} (hc : l[i]? = some 125) (k : List Fr) : R l i ⟨.after v, .objv mem n :: k⟩ = R l (i + 1) ⟨.after (.obj (sortMem (mem ++ [(n, v)]))), k⟩ := by
  rw [R_go hc]; simp [δ, dAfter, isBlank]

theorem obj_bad {v : JV} {mem : List (Bs × JV)} {n : Bs} (hc : ∀ c, l[i]? = some c → isBlank c = false ∧ c ≠ 44 ∧ c ≠ 125) (k : List Fr) : R l i ⟨.after v, .objv mem n :: k⟩ = .bad eForm i := by
  cases h : l[i]? with
  | none => rw [R_end (List.getElem?_eq_none_iff.1 h)]; simp [eof]
  | some c => obtain ⟨h1, h2, h3⟩ := hc c h; rw [R_bad h (e := eForm)]; simp [δ, dAfter, h1, h2, h3]

end

end Go.Proofs.YthgcnmdnjfajbaaGreatDoor.Jot
