/- The machine of JotSpec over whole texts, in plain Lean: what it has read hangs on what it has read alone; the place of a fault. Conditions: none. -/
import Derived.Test.YthgcnmdnjfajbaaGreatDoorJotRest
namespace Go.Proofs.YthgcnmdnjfajbaaGreatDoor.Jot

/-- The state behind a text, if there is no fault in it. -/
def runTo : St → Bs → Option St
  | s, [] => some s
  | s, c :: t => match δ s c with | .go s' => runTo s' t | .bad _ => none

theorem run_append {s s' : St} {a : Bs} (b : Bs) (p : Nat) (h : runTo s a = some s') : run s (a ++ b) p = run s' b (p + a.length) := by
  induction a generalizing s p with
  | nil => simp only [runTo, Option.some.injEq] at h; subst h; rfl
  | cons c t ih =>
    simp only [runTo] at h
    cases hd : δ s c with
    | go s1 =>
      rw [hd] at h
      simp only [List.cons_append, run, hd]
      rw [ih (p + 1) h, List.length_cons, show p + 1 + t.length = p + (t.length + 1) from by omega]
    | bad e => rw [hd] at h; simp at h

theorem run_to {s s' : St} {a : Bs} (p : Nat) (h : runTo s a = some s') : run s a p = eof s' (p + a.length) := by
  have := run_append [] p h
  simpa [run] using this

theorem runTo_append {s s' : St} {a b : Bs} (h : runTo s a = some s') : runTo s (a ++ b) = runTo s' b := by
  induction a generalizing s with
  | nil => simp only [runTo, Option.some.injEq] at h; subst h; rfl
  | cons c t ih =>
    simp only [runTo] at h
    cases hd : δ s c with
    | go s1 => rw [hd] at h; simp only [List.cons_append, runTo, hd]; exact ih h
    | bad e => rw [hd] at h; simp at h

theorem runTo_snoc {s s' s'' : St} {a : Bs} {c : UInt8} (h : runTo s a = some s') (hd : δ s' c = .go s'') : runTo s (a ++ [c]) = some s'' := by
  rw [runTo_append h]; simp [runTo, hd]

theorem eof_bad {s : St} {p q : Nat} {e : Err} (h : eof s p = .bad e q) : q = p ∧ e = eForm := by
  unfold eof at h
  split at h
  · cases h
  · cases h
  · cases h
  · cases h; exact ⟨rfl, rfl⟩

theorem eof_ok_any {s : St} {p : Nat} (q : Nat) {v : JV} (h : eof s p = .ok v) : eof s q = .ok v := by
  unfold eof at h ⊢
  split at h
  · exact h
  · exact h
  · exact h
  · cases h

theorem fin_iff {s : St} : fin s = true ↔ ∃ v, ∀ p, eof s p = .ok v := by
  unfold fin
  constructor
  · intro h
    cases he : eof s 0 with
    | ok v => exact ⟨v, fun p => eof_ok_any p he⟩
    | bad e q => rw [he] at h; cases h
  · rintro ⟨v, h⟩; rw [h 0]

theorem fin_false {s : St} (h : fin s = false) (p : Nat) : eof s p = .bad eForm p := by
  cases he : eof s p with
  | ok v => rw [fin, eof_ok_any 0 he] at h; cases h
  | bad e q => obtain ⟨rfl, rfl⟩ := eof_bad he; rfl

/-- The place of a fault: all ahead of it is taken; there the text ends, or a byte stands that can't. -/
theorem run_bad {s : St} {l : Bs} {p q : Nat} {e : Err} (h : run s l p = .bad e q) :
    ∃ n s', q = p + n ∧ n ≤ l.length ∧ runTo s (l.take n) = some s' ∧ ((n = l.length ∧ e = eForm ∧ fin s' = false) ∨ ∃ c, l[n]? = some c ∧ δ s' c = .bad e) := by
  induction l generalizing s p with
  | nil =>
    obtain ⟨rfl, rfl⟩ := eof_bad h
    refine ⟨0, s, rfl, Nat.le_refl _, rfl, .inl ⟨rfl, rfl, ?_⟩⟩
    cases hf : fin s with
    | false => rfl
    | true => obtain ⟨v, hv⟩ := fin_iff.1 hf; simp only [run] at h; rw [hv] at h; cases h
  | cons c t ih =>
    simp only [run] at h
    cases hd : δ s c with
    | go s1 =>
      rw [hd] at h
      obtain ⟨n, s', hq, hn, hr, hor⟩ := ih h
      refine ⟨n + 1, s', by omega, by simpa using hn, by simp [runTo, hd, hr], ?_⟩
      rcases hor with ⟨h1, h2, h3⟩ | ⟨x, h1, h2⟩
      · exact .inl ⟨by simp [h1], h2, h3⟩
      · exact .inr ⟨x, by simpa using h1, h2⟩
    | bad e' =>
      rw [hd] at h
      cases h
      exact ⟨0, s, rfl, Nat.zero_le _, rfl, .inr ⟨c, rfl, hd⟩⟩

theorem run_bad_at {s s' : St} {a b : Bs} {c : UInt8} {e : Err} (p : Nat) (h : runTo s a = some s') (hd : δ s' c = .bad e) : run s (a ++ c :: b) p = .bad e (p + a.length) := by
  rw [run_append _ _ h]; simp [run, hd]

theorem inv_dVal {c : UInt8} {k : List Fr} {s' : St} (hk : closed k) (h : dVal c k = .go s') : Inv s' := by
  unfold dVal at h
  repeat' (split at h)
  all_goals first
    | (cases h; done)
    | (cases h; exact hk)
    | (cases h; exact ⟨hk, by simp [wordOk]⟩)
    | (cases h; exact ⟨trivial, hk⟩)
    | (cases h; exact ⟨closed_cons.2 ⟨rfl, hk⟩, _, _, rfl⟩)
    | (cases h; exact ⟨_, _, rfl, hk⟩)

theorem inv_dAfter {v : JV} {c : UInt8} {k : List Fr} {s' : St} (hk : closed k) (h : dAfter v c k = .go s') : Inv s' := by
  unfold dAfter at h
  split at h
  · cases h; exact hk
  · split at h
    · split at h
      · cases h; exact closed_cons.2 ⟨rfl, (closed_cons.1 hk).2⟩
      · split at h
        · cases h; exact (closed_cons.1 hk).2
        · cases h
    · split at h
      · cases h; exact ⟨_, _, rfl, (closed_cons.1 hk).2⟩
      · split at h
        · cases h; exact (closed_cons.1 hk).2
        · cases h
    · cases h

theorem lead_ok {c : UInt8} {lo hi more : Nat} (h : lead c = some (lo, hi, more)) : tmOk (.cont lo hi more) := by
  unfold lead at h
  repeat' (split at h)
  all_goals first
    | (cases h; done)
    | (simp only [Option.some.injEq, Prod.mk.injEq] at h; obtain ⟨rfl, rfl, rfl⟩ := h; simp [tmOk])

theorem inv_dText {key : Bool} {t : TM} {acc : Bs} {c : UInt8} {k : List Fr} {s' : St} (ht : tmOk t) (hk : if key then opens k else closed k)
    (h : dText key t acc c k = .go s') : Inv s' := by
  cases t with
  | plain =>
    simp only [dText] at h
    split at h
    · cases key with
      | true =>
        obtain ⟨mem, r, rfl, hr⟩ := hk
        simp only [if_true] at h
        split at h
        · cases h
        · cases h; exact closed_cons.2 ⟨rfl, hr⟩
      | false => cases h; exact hk
    · split at h
      · cases h; exact ⟨trivial, hk⟩
      · split at h
        · cases h
        · split at h
          · cases h; exact ⟨trivial, hk⟩
          · split at h
            · rename_i he; cases h; exact ⟨lead_ok he, hk⟩
            · cases h
  | cont lo hi more =>
    simp only [dText] at h
    split at h
    · split at h
      · cases h; exact ⟨trivial, hk⟩
      · cases h; exact ⟨⟨.inl rfl, by omega, by omega, by have := ht.2.2.2; omega⟩, hk⟩
    · cases h
  | esc =>
    simp only [dText] at h
    split at h
    · cases h; exact ⟨by simp [tmOk], hk⟩
    · split at h
      · cases h; exact ⟨trivial, hk⟩
      · cases h
  | hex j n =>
    simp only [dText] at h
    split at h
    · cases h
    · split at h
      · cases h
      · split at h
        · cases h; exact ⟨by simp [tmOk]; omega, hk⟩
        · split at h
          · cases h; exact ⟨trivial, hk⟩
          · cases h; exact ⟨trivial, hk⟩
  | sur1 n =>
    simp only [dText] at h
    split at h
    · cases h; exact ⟨trivial, hk⟩
    · cases h
  | sur2 n =>
    simp only [dText] at h
    split at h
    · cases h; exact ⟨by simp [tmOk], hk⟩
    · cases h
  | low j n m =>
    simp only [dText] at h
    split at h
    · cases h
    · split at h
      · cases h
      · split at h
        · cases h; exact ⟨by simp [tmOk]; omega, hk⟩
        · cases h; exact ⟨trivial, hk⟩

theorem inv_step {s s' : St} {c : UInt8} (hi : Inv s) (h : δ s c = .go s') : Inv s' := by
  obtain ⟨mode, k⟩ := s
  cases mode with
  | val => exact inv_dVal hi h
  | arr0 =>
    obtain ⟨hc, i, r, hk⟩ := hi
    simp only [δ] at h
    split at h
    · cases h; exact ⟨hc, i, r, hk⟩
    · split at h
      · cases h; simp only at hk; subst hk; exact (closed_cons.1 hc).2
      · exact inv_dVal hc h
  | obj0 =>
    simp only [δ] at h
    split at h
    · cases h; exact hi
    · split at h
      · cases h; obtain ⟨mem, r, hk, hr⟩ := hi; simp only at hk; subst hk; exact hr
      · split at h
        · cases h; exact ⟨trivial, hi⟩
        · cases h
  | key =>
    simp only [δ] at h
    split at h
    · cases h; exact hi
    · split at h
      · cases h; exact ⟨trivial, hi⟩
      · cases h
  | colon =>
    simp only [δ] at h
    split at h
    · cases h; exact hi
    · split at h
      · cases h; exact hi
      · cases h
  | after v => exact inv_dAfter hi h
  | word r v =>
    cases r with
    | nil => exact inv_dAfter hi.1 h
    | cons x r =>
      simp only [δ] at h
      split at h
      · split at h
        · cases h; exact hi.1
        · rename_i hr; cases h; exact ⟨hi.1, hr, by have := hi.2.2.1; simp at this; omega, fun c hc => hi.2.2.2 c (List.mem_cons_of_mem _ hc)⟩
      · cases h
  | minus =>
    simp only [δ] at h
    split at h
    · cases h; exact hi
    · split at h
      · cases h; exact hi
      · cases h
  | num neg n =>
    simp only [δ] at h
    split at h
    · split at h
      · cases h
      · cases h; exact hi
    · exact inv_dAfter hi h
  | text key t acc => exact inv_dText hi.1 hi.2 h

theorem inv_start : Inv start := by simp [Inv, start, closed]

theorem inv_runTo {s s' : St} {a : Bs} (hi : Inv s) (h : runTo s a = some s') : Inv s' := by
  induction a generalizing s with
  | nil => simp only [runTo, Option.some.injEq] at h; subst h; exact hi
  | cons c t ih =>
    simp only [runTo] at h
    cases hd : δ s c with
    | go s1 => rw [hd] at h; exact ih (inv_step hi hd) h
    | bad e => rw [hd] at h; simp at h

/-- How many members stand open. -/
def memAll : List Fr → Nat
  | [] => 0
  | .arr _ :: r => memAll r
  | .obj m :: r => m.length + memAll r
  | .objv m _ :: r => m.length + memAll r

theorem memTop_le (k : List Fr) : (memTop k).length ≤ memAll k := by
  cases k with
  | nil => simp [memTop]
  | cons f r => cases f <;> simp [memTop, memAll]

def bnd (s s' : St) : Prop := memAll s'.stack ≤ memAll s.stack + 1 ∧ (s.stack.length ≤ 16 → s'.stack.length ≤ 16)

theorem bnd_same {m m' : Mode} {k : List Fr} : bnd ⟨m, k⟩ ⟨m', k⟩ := ⟨by simp, id⟩

theorem bnd_dVal {m : Mode} {c : UInt8} {k : List Fr} {s' : St} (h : dVal c k = .go s') : bnd ⟨m, k⟩ s' := by
  unfold dVal at h
  repeat' (split at h)
  all_goals first
    | (cases h; done)
    | (cases h; exact bnd_same)
    | (cases h; rename_i hk; refine ⟨by simp [memAll], fun hl => ?_⟩; simp [maxDeep] at hk hl ⊢; omega)

theorem bnd_dAfter {m : Mode} {v : JV} {c : UInt8} {k : List Fr} {s' : St} (h : dAfter v c k = .go s') : bnd ⟨m, k⟩ s' := by
  unfold dAfter at h
  split at h
  · cases h; exact bnd_same
  · split at h
    · split at h
      · cases h; exact ⟨by simp [memAll], fun hl => by simpa using hl⟩
      · split at h
        · cases h; exact ⟨by simp [memAll], fun hl => by simp at hl ⊢; omega⟩
        · cases h
    · split at h
      · cases h; exact ⟨by simp [memAll]; omega, fun hl => by simpa using hl⟩
      · split at h
        · cases h; exact ⟨by simp [memAll]; omega, fun hl => by simp at hl ⊢; omega⟩
        · cases h
    · cases h

theorem bnd_dText {key : Bool} {t : TM} {acc : Bs} {c : UInt8} {k : List Fr} {s' : St} {m : Mode} (h : dText key t acc c k = .go s') : bnd ⟨m, k⟩ s' := by
  cases t with
  | plain =>
    simp only [dText] at h
    split at h
    · split at h
      · split at h
        · split at h
          · cases h
          · cases h; exact ⟨by simp [memAll], fun hl => by simpa using hl⟩
        · cases h
      · cases h; exact bnd_same
    · repeat' (split at h)
      all_goals first
        | (cases h; done)
        | (cases h; exact bnd_same)
  | _ =>
    simp only [dText] at h
    repeat' (split at h)
    all_goals first
      | (cases h; done)
      | (cases h; exact bnd_same)

theorem bnd_step {s s' : St} {c : UInt8} (h : δ s c = .go s') : bnd s s' := by
  obtain ⟨mode, k⟩ := s
  have pop : ∀ m : Mode, bnd ⟨mode, k⟩ ⟨m, k.tail⟩ := by
    intro m
    cases k with
    | nil => exact bnd_same
    | cons f r => exact ⟨by cases f <;> simp [memAll] <;> omega, fun hl => by simp at hl ⊢; omega⟩
  cases mode with
  | val => exact bnd_dVal h
  | arr0 =>
    simp only [δ] at h
    split at h
    · cases h; exact bnd_same
    · split at h
      · cases h; exact pop _
      · exact bnd_dVal h
  | obj0 =>
    simp only [δ] at h
    split at h
    · cases h; exact bnd_same
    · split at h
      · cases h; exact pop _
      · split at h
        · cases h; exact bnd_same
        · cases h
  | key | colon | minus =>
    simp only [δ] at h
    repeat' (split at h)
    all_goals first
      | (cases h; done)
      | (cases h; exact bnd_same)
  | after v => exact bnd_dAfter h
  | word r v =>
    cases r with
    | nil => exact bnd_dAfter h
    | cons x r =>
      simp only [δ] at h
      repeat' (split at h)
      all_goals first
        | (cases h; done)
        | (cases h; exact bnd_same)
  | num neg n =>
    simp only [δ] at h
    split at h
    · split at h
      · cases h
      · cases h; exact bnd_same
    · exact bnd_dAfter h
  | text key t acc => exact bnd_dText h

theorem bnd_runTo {s s' : St} {a : Bs} (h : runTo s a = some s') : memAll s'.stack ≤ memAll s.stack + a.length ∧ (s.stack.length ≤ 16 → s'.stack.length ≤ 16) := by
  induction a generalizing s with
  | nil => simp only [runTo, Option.some.injEq] at h; subst h; exact ⟨by simp, id⟩
  | cons c t ih =>
    simp only [runTo] at h
    cases hd : δ s c with
    | go s1 =>
      rw [hd] at h
      have h1 := bnd_step hd
      have h2 := ih h
      refine ⟨?_, fun hl => h2.2 (h1.2 hl)⟩
      have := h1.1
      have := h2.1
      simp only [List.length_cons]
      omega
    | bad e => rw [hd] at h; simp at h

theorem tmCost_le (t : TM) (h : tmOk t) : tmCost t ≤ 10 := by
  cases t with
  | cont lo hi more => have := h.2.2.2; simp [tmCost]; omega
  | _ => simp [tmCost] <;> omega

theorem μ_le {s : St} (hi : Inv s) : μ s ≤ s.stack.length + 14 + memAll s.stack := by
  obtain ⟨mode, k⟩ := s
  have hm := memTop_le k
  cases mode with
  | word r v => have := hi.2.2.1; simp [μ]; omega
  | text key t acc =>
    have ht := tmCost_le t hi.1
    have hc := cnt_le acc (memTop k)
    cases key with
    | false => simp [μ]; omega
    | true => cases t <;> simp [μ] at ht ⊢ <;> omega
  | _ => simp [μ] <;> omega

end Go.Proofs.YthgcnmdnjfajbaaGreatDoor.Jot
