/- The law of the place, in plain Lean: whatever the machine of JotSpec has read without a fault can be gone on with, mark by mark, to a text that is taken. Conditions: none. -/
import Derived.Test.YthgcnmdnjfajbaaGreatDoorJotSpec
namespace Go.Proofs.YthgcnmdnjfajbaaGreatDoor.Jot

def Step.isGo : Step → Bool
  | .go _ => true
  | .bad _ => false

def marks : Bs := [34, 93, 125, 58, 48, 44, 117, 108, 97, 115, 114, 101, 116, 100, 99, 92, 0x80, 0x90, 0xa0]

def pick (s : St) : Option UInt8 := marks.find? fun m => (δ s m).isGo

/-- May the text end here? -/
def fin (s : St) : Bool := match eof s 0 with | .ok _ => true | .bad _ _ => false

def Fr.closed : Fr → Bool
  | .obj _ => false
  | _ => true

def closed (k : List Fr) : Prop := ∀ f ∈ k, f.closed = true

def opens (k : List Fr) : Prop := ∃ mem r, k = .obj mem :: r ∧ closed r

def tmOk : TM → Prop
  | .cont lo hi more => (lo = 128 ∨ lo = 144 ∨ lo = 160) ∧ lo ≤ hi ∧ hi < 192 ∧ more ≤ 2
  | .hex j _ => j ≤ 3
  | .low j _ _ => j ≤ 3
  | _ => True

def wordOk (r : Bs) : Prop := r ≠ [] ∧ r.length ≤ 4 ∧ ∀ c ∈ r, c = 117 ∨ c = 108 ∨ c = 97 ∨ c = 115 ∨ c = 101 ∨ c = 114

def Inv (s : St) : Prop :=
  match s.mode with
  | .val | .colon | .after _ | .minus | .num _ _ => closed s.stack
  | .arr0 => closed s.stack ∧ ∃ i r, s.stack = .arr i :: r
  | .obj0 | .key => opens s.stack
  | .word r _ => closed s.stack ∧ wordOk r
  | .text key t _ => tmOk t ∧ if key then opens s.stack else closed s.stack

def memTop : List Fr → List (Bs × JV)
  | .obj m :: _ => m
  | _ => []

def cnt (acc : Bs) (m : List (Bs × JV)) : Nat := (m.filter fun x => acc.isPrefixOf x.1).length

def tmCost : TM → Nat
  | .plain => 0
  | .cont _ _ more => more + 1
  | .esc => 1
  | .hex j _ => (4 - j) + 6
  | .sur1 _ => 6
  | .sur2 _ => 5
  | .low j _ _ => 4 - j

def μ (s : St) : Nat :=
  s.stack.length +
  match s.mode with
  | .val => 2
  | .arr0 => 2
  | .obj0 | .key => 5 + (memTop s.stack).length
  | .colon => 3
  | .after _ => 0
  | .word r _ => r.length
  | .minus => 1
  | .num _ _ => 0
  | .text false t _ => 1 + tmCost t
  | .text true .plain acc => 4 + cnt acc (memTop s.stack)
  | .text true t _ => 4 + tmCost t + (memTop s.stack).length

theorem cnt_le (acc : Bs) (m : List (Bs × JV)) : cnt acc m ≤ m.length := List.length_filter_le _ _

theorem closed_cons {f : Fr} {k : List Fr} : closed (f :: k) ↔ f.closed = true ∧ closed k := by simp [closed]

theorem isPrefixOf_snoc (acc n : Bs) (x : UInt8) (h : (acc ++ [x]).isPrefixOf n = true) : acc.isPrefixOf n = true := by
  rw [List.isPrefixOf_iff_prefix] at *
  exact (List.prefix_append acc [x]).trans h

theorem filter_lt {α : Type} (p q : α → Bool) (l : List α) (h : ∀ x ∈ l, p x = true → q x = true) (y : α) (hy : y ∈ l) (hq : q y = true) (hp : p y = false) :
    (l.filter p).length < (l.filter q).length := by
  induction l with
  | nil => cases hy
  | cons a l ih =>
    have hle : ∀ l : List α, (∀ x ∈ l, p x = true → q x = true) → (l.filter p).length ≤ (l.filter q).length := by
      intro l h
      induction l with
      | nil => simp
      | cons b l ih =>
        have := ih (fun x hx => h x (List.mem_cons_of_mem _ hx))
        simp only [List.filter_cons]
        by_cases hb : p b = true
        · simp [hb, h b (List.mem_cons_self ..) hb, this]
        · by_cases hb' : q b = true
          · simp [hb, hb']; omega
          · simp [hb, hb', this]
    simp only [List.filter_cons]
    rcases List.mem_cons.1 hy with rfl | hy'
    · have := hle l (fun x hx => h x (List.mem_cons_of_mem _ hx))
      simp [hq, hp]; omega
    · have := ih (fun x hx => h x (List.mem_cons_of_mem _ hx)) hy'
      by_cases hb : p a = true
      · simp [hb, h a (List.mem_cons_self ..) hb, this]
      · by_cases hb' : q a = true
        · simp [hb, hb']; omega
        · simp [hb, hb', this]

theorem cnt_snoc_lt (acc : Bs) (x : UInt8) (m : List (Bs × JV)) (h : acc ∈ m.map (·.1)) : cnt (acc ++ [x]) m < cnt acc m := by
  obtain ⟨y, hy, rfl⟩ := List.mem_map.1 h
  refine filter_lt _ _ m (fun z _ hz => isPrefixOf_snoc _ _ _ hz) y hy ?_ ?_
  · simp [List.isPrefixOf_iff_prefix]
  · rw [Bool.eq_false_iff]
    intro hc
    rw [List.isPrefixOf_iff_prefix] at hc
    have := hc.length_le
    simp at this
    omega

/-- One mark that the machine takes, nearer to the end. -/
def Goes (s : St) : Prop := ∃ m s', pick s = some m ∧ δ s m = .go s' ∧ Inv s' ∧ μ s' < μ s

theorem goes_after {v : JV} {k : List Fr} (hc : closed k) (hk : k ≠ []) (n : Nat) : ∃ m s', marks.find? (fun m => (dAfter v m k).isGo) = some m ∧ dAfter v m k = .go s' ∧ Inv s' ∧ μ s' < k.length + n := by
  match k, hk, hc with
  | .arr i :: r, _, hc =>
    refine ⟨93, ⟨.after (.list (i ++ [v])), r⟩, by simp [marks, List.find?, dAfter, isBlank, Step.isGo], by simp [dAfter, isBlank], (closed_cons.1 hc).2, ?_⟩
    simp [μ]; omega
  | .objv mem name :: r, _, hc =>
    refine ⟨125, ⟨.after (.obj (sortMem (mem ++ [(name, v)]))), r⟩, by simp [marks, List.find?, dAfter, isBlank, Step.isGo], by simp [dAfter, isBlank], (closed_cons.1 hc).2, ?_⟩
    simp [μ]; omega
  | .obj m :: r, _, hc => simp [closed, Fr.closed] at hc

theorem goes {s : St} (hi : Inv s) (hf : fin s = false) : Goes s := by
  obtain ⟨mode, k⟩ := s
  cases mode with
  | val => exact ⟨34, ⟨.text false .plain [], k⟩, by simp [pick, marks, δ, dVal, isBlank, Step.isGo], by simp [δ, dVal, isBlank], ⟨trivial, hi⟩, by simp [μ, tmCost]⟩
  | arr0 =>
    exact ⟨34, ⟨.text false .plain [], k⟩, by simp [pick, marks, δ, dVal, isBlank, Step.isGo], by simp [δ, dVal, isBlank], ⟨trivial, hi.1⟩, by simp [μ, tmCost]⟩
  | obj0 =>
    exact ⟨34, ⟨.text true .plain [], k⟩, by simp [pick, marks, δ, isBlank, Step.isGo], by simp [δ, isBlank], ⟨trivial, hi⟩, by have := cnt_le [] (memTop k); simp [μ]; omega⟩
  | key =>
    exact ⟨34, ⟨.text true .plain [], k⟩, by simp [pick, marks, δ, isBlank, Step.isGo], by simp [δ, isBlank], ⟨trivial, hi⟩, by have := cnt_le [] (memTop k); simp [μ]; omega⟩
  | colon => exact ⟨58, ⟨.val, k⟩, by simp [pick, marks, List.find?, δ, isBlank, Step.isGo], by simp [δ, isBlank], hi, by simp [μ]⟩
  | after v =>
    have hk : k ≠ [] := by rintro rfl; simp [fin, eof] at hf
    obtain ⟨m, s', h1, h2, h3, h4⟩ := goes_after (v := v) hi hk 0
    exact ⟨m, s', h1, h2, h3, by simpa [μ] using h4⟩
  | word r v =>
    obtain ⟨hc, hr, hlen, hl⟩ := hi
    match r, hr, hlen, hl with
    | x :: r, _, hlen, hl =>
      have hx := hl x (List.mem_cons_self ..)
      refine ⟨x, if r = [] then ⟨.after v, k⟩ else ⟨.word r v, k⟩, ?_, ?_, ?_, ?_⟩
      · have hs : (Step.isGo (if r = [] then Step.go ⟨.after v, k⟩ else Step.go ⟨.word r v, k⟩)) = true := by split <;> rfl
        rcases hx with rfl | rfl | rfl | rfl | rfl | rfl <;> simp [pick, marks, List.find?, δ, hs] <;> simp [Step.isGo]
      · by_cases h : r = [] <;> simp [δ, h]
      · by_cases h : r = []
        · simp only [h, if_true]; exact hc
        · simp only [h, if_false]; exact ⟨hc, h, by simp at hlen; omega, fun c hc => hl c (List.mem_cons_of_mem _ hc)⟩
      · by_cases h : r = [] <;> simp [μ, h]
  | minus => exact ⟨48, ⟨.after (.num 0), k⟩, by simp [pick, marks, List.find?, δ, isDigit, Step.isGo], by simp [δ], hi, by simp [μ]⟩
  | num neg n =>
    have hk : k ≠ [] := by rintro rfl; simp [fin, eof] at hf
    match k, hk, hi with
    | .arr i :: r, _, hc =>
      refine ⟨93, ⟨.after (.list (i ++ [.num (signed neg n)])), r⟩, by simp [pick, marks, List.find?, δ, isDigit, dAfter, isBlank, Step.isGo], by simp [δ, isDigit, dAfter, isBlank], (closed_cons.1 hc).2, ?_⟩
      simp [μ]
    | .objv mem name :: r, _, hc =>
      refine ⟨125, ⟨.after (.obj (sortMem (mem ++ [(name, .num (signed neg n))]))), r⟩, by simp [pick, marks, List.find?, δ, isDigit, dAfter, isBlank, Step.isGo], by simp [δ, isDigit, dAfter, isBlank], (closed_cons.1 hc).2, ?_⟩
      simp [μ]
    | .obj m :: r, _, hc => simp [Inv, closed, Fr.closed] at hc
  | text key t acc =>
    obtain ⟨ht, hk⟩ := hi
    have hk' : ∀ t' acc', tmOk t' → Inv ⟨.text key t' acc', k⟩ := fun _ _ h => ⟨h, hk⟩
    have hlt : ∀ t' acc', t ≠ .plain → tmCost t' < tmCost t → μ ⟨.text key t' acc', k⟩ < μ ⟨.text key t acc, k⟩ := by
      intro t' acc' hp hc
      have := cnt_le acc' (memTop k)
      cases key with
      | false => simp [μ]; omega
      | true => cases t <;> cases t' <;> simp_all [μ] <;> omega
    cases t with
    | plain =>
      cases key with
      | false =>
        exact ⟨34, ⟨.after (.text acc), k⟩, by simp [pick, marks, δ, dText, Step.isGo], by simp [δ, dText], hk, by simp [μ]; omega⟩
      | true =>
        obtain ⟨mem, r, rfl, hr⟩ := hk
        by_cases h : acc ∈ mem.map (·.1)
        · have h' : ∃ x, (acc, x) ∈ mem := by simpa using h
          refine ⟨93, ⟨.text true .plain (acc ++ [93]), .obj mem :: r⟩, ?_, ?_, hk' _ _ trivial, ?_⟩
          · simp [pick, marks, List.find?, δ, dText, h', Step.isGo]
          · simp [δ, dText]
          · have := cnt_snoc_lt acc 93 mem h
            simp [μ, memTop]; omega
        · have h' : ¬ ∃ x, (acc, x) ∈ mem := by simpa using h
          refine ⟨34, ⟨.colon, .objv mem acc :: r⟩, ?_, ?_, closed_cons.2 ⟨rfl, hr⟩, ?_⟩
          · simp [pick, marks, δ, dText, h', Step.isGo]
          · simp [δ, dText, h']
          · simp [μ]; omega
    | cont lo hi more =>
      obtain ⟨h1, h2, h3, h4⟩ := ht
      have key' : ∀ m : UInt8, lo = m.toNat → δ ⟨.text key (.cont lo hi more) acc, k⟩ m = .go (match more with | 0 => ⟨.text key .plain (acc ++ [m]), k⟩ | n + 1 => ⟨.text key (.cont 0x80 0xbf n) (acc ++ [m]), k⟩) := by
        intro m hm
        have h2' : m.toNat ≤ hi := by omega
        cases more <;> simp [δ, dText, hm, h2']
      have low' : ∀ m : UInt8, m.toNat < lo → δ ⟨.text key (.cont lo hi more) acc, k⟩ m = .bad eForm := by
        intro m hm
        have h2' : ¬ (lo ≤ m.toNat ∧ m.toNat ≤ hi) := by omega
        simp [δ, dText, h2']
      have fin' : ∀ m : UInt8, lo = m.toNat → pick ⟨.text key (.cont lo hi more) acc, k⟩ = some m → Goes ⟨.text key (.cont lo hi more) acc, k⟩ := by
        intro m hm hp
        refine ⟨m, _, hp, key' m hm, ?_, ?_⟩
        · cases more with
          | zero => exact hk' _ _ trivial
          | succ n => exact hk' _ _ ⟨.inl rfl, by omega, by omega, by omega⟩
        · cases more with
          | zero => exact hlt _ _ (by simp) (by simp [tmCost])
          | succ n => exact hlt _ _ (by simp) (by simp [tmCost])
      have b34 := low' 34; have b93 := low' 93; have b125 := low' 125; have b58 := low' 58; have b48 := low' 48; have b44 := low' 44
      have b117 := low' 117; have b108 := low' 108; have b97 := low' 97; have b115 := low' 115; have b114 := low' 114; have b101 := low' 101
      have b116 := low' 116; have b100 := low' 100; have b99 := low' 99; have b92 := low' 92; have b128 := low' 128; have b144 := low' 144
      rcases h1 with rfl | rfl | rfl
      · refine fin' 128 rfl ?_
        have := key' 128 rfl
        simp [pick, marks, List.find?, b34, b93, b125, b58, b48, b44, b117, b108, b97, b115, b114, b101, b116, b100, b99, b92, this, Step.isGo]
      · refine fin' 144 rfl ?_
        have := key' 144 rfl
        simp [pick, marks, List.find?, b34, b93, b125, b58, b48, b44, b117, b108, b97, b115, b114, b101, b116, b100, b99, b92, b128, this, Step.isGo]
      · refine fin' 160 rfl ?_
        have := key' 160 rfl
        simp [pick, marks, List.find?, b34, b93, b125, b58, b48, b44, b117, b108, b97, b115, b114, b101, b116, b100, b99, b92, b128, b144, this, Step.isGo]
    | esc =>
      exact ⟨34, ⟨.text key .plain (acc ++ [34]), k⟩, by simp [pick, marks, δ, dText, escByte, Step.isGo], by simp [δ, dText, escByte], hk' _ _ trivial, hlt _ _ (by simp) (by simp [tmCost])⟩
    | hex j n =>
      have hd : ∀ c : UInt8, hexDigit c = none → δ ⟨.text key (.hex j n) acc, k⟩ c = .bad eForm := by intro c h; simp [δ, dText, h]
      have h34 := hd 34 (by decide); have h93 := hd 93 (by decide); have h125 := hd 125 (by decide); have h58 := hd 58 (by decide)
      have h0 : hexDigit 48 = some 0 := by decide
      have hj3 : j ≤ 3 := ht
      by_cases hj : j < 3
      · have hg : δ ⟨.text key (.hex j n) acc, k⟩ 48 = .go ⟨.text key (.hex (j + 1) (16 * n + 0)) acc, k⟩ := by simp [δ, dText, h0, hj]
        exact ⟨48, _, by simp [pick, marks, List.find?, h34, h93, h125, h58, hg, Step.isGo], hg, hk' _ _ (by simp [tmOk]; omega), hlt _ _ (by simp) (by simp [tmCost]; omega)⟩
      · by_cases hs : 0xd800 ≤ 16 * n + 0 ∧ 16 * n + 0 ≤ 0xdbff
        · have hg : δ ⟨.text key (.hex j n) acc, k⟩ 48 = .go ⟨.text key (.sur1 (16 * n + 0)) acc, k⟩ := by simp only [δ, dText, h0]; rw [if_neg (by omega), if_neg hj, if_pos hs]
          exact ⟨48, _, by simp [pick, marks, List.find?, h34, h93, h125, h58, hg, Step.isGo], hg, hk' _ _ trivial, hlt _ _ (by simp) (by simp [tmCost]; omega)⟩
        · have hg : δ ⟨.text key (.hex j n) acc, k⟩ 48 = .go ⟨.text key .plain (acc ++ utf8 (16 * n + 0)), k⟩ := by simp only [δ, dText, h0]; rw [if_neg (by omega), if_neg hj, if_neg hs]
          exact ⟨48, _, by simp [pick, marks, List.find?, h34, h93, h125, h58, hg, Step.isGo], hg, hk' _ _ trivial, hlt _ _ (by simp) (by simp [tmCost])⟩
    | sur1 n =>
      exact ⟨92, ⟨.text key (.sur2 n) acc, k⟩, by simp [pick, marks, List.find?, δ, dText, Step.isGo], by simp [δ, dText], hk' _ _ trivial, hlt _ _ (by simp) (by simp [tmCost])⟩
    | sur2 n =>
      exact ⟨117, ⟨.text key (.low 0 n 0) acc, k⟩, by simp [pick, marks, List.find?, δ, dText, Step.isGo], by simp [δ, dText], hk' _ _ (by simp [tmOk]), hlt _ _ (by simp) (by simp [tmCost])⟩
    | low j n m =>
      have hd : ∀ c : UInt8, hexDigit c = none → δ ⟨.text key (.low j n m) acc, k⟩ c = .bad eForm := by intro c h; simp [δ, dText, h]
      have h34 := hd 34 (by decide); have h93 := hd 93 (by decide); have h125 := hd 125 (by decide); have h58 := hd 58 (by decide); have h44 := hd 44 (by decide)
      have h117 := hd 117 (by decide); have h108 := hd 108 (by decide); have h115 := hd 115 (by decide); have h114 := hd 114 (by decide); have h116 := hd 116 (by decide)
      have e0 : hexDigit 48 = some 0 := by decide
      have ea : hexDigit 97 = some 10 := by decide
      have ee : hexDigit 101 = some 14 := by decide
      have ed : hexDigit 100 = some 13 := by decide
      have hj3 : j ≤ 3 := ht
      match j, hj3 with
      | 0, _ =>
        have g0 : δ ⟨.text key (.low 0 n m) acc, k⟩ 48 = .bad eForm := by simp [δ, dText, e0]
        have ga : δ ⟨.text key (.low 0 n m) acc, k⟩ 97 = .bad eForm := by simp [δ, dText, ea]
        have ge : δ ⟨.text key (.low 0 n m) acc, k⟩ 101 = .bad eForm := by simp [δ, dText, ee]
        have gd : δ ⟨.text key (.low 0 n m) acc, k⟩ 100 = .go ⟨.text key (.low 1 n (16 * m + 13)) acc, k⟩ := by simp [δ, dText, ed]
        exact ⟨100, _, by simp [pick, marks, List.find?, h34, h93, h125, h58, h44, h117, h108, h115, h114, h116, g0, ga, ge, gd, Step.isGo], gd, hk' _ _ (by simp [tmOk]), hlt _ _ (by simp) (by simp [tmCost])⟩
      | 1, _ =>
        have g0 : δ ⟨.text key (.low 1 n m) acc, k⟩ 48 = .bad eForm := by simp [δ, dText, e0]
        have ga : δ ⟨.text key (.low 1 n m) acc, k⟩ 97 = .bad eForm := by simp [δ, dText, ea]
        have ge : δ ⟨.text key (.low 1 n m) acc, k⟩ 101 = .go ⟨.text key (.low 2 n (16 * m + 14)) acc, k⟩ := by simp [δ, dText, ee]
        exact ⟨101, _, by simp [pick, marks, List.find?, h34, h93, h125, h58, h44, h117, h108, h115, h114, g0, ga, ge, Step.isGo], ge, hk' _ _ (by simp [tmOk]), hlt _ _ (by simp) (by simp [tmCost])⟩
      | 2, _ =>
        have g0 : δ ⟨.text key (.low 2 n m) acc, k⟩ 48 = .go ⟨.text key (.low 3 n (16 * m + 0)) acc, k⟩ := by simp [δ, dText, e0]
        exact ⟨48, _, by simp [pick, marks, List.find?, h34, h93, h125, h58, g0, Step.isGo], g0, hk' _ _ (by simp [tmOk]), hlt _ _ (by simp) (by simp [tmCost])⟩
      | 3, _ =>
        have g0 : δ ⟨.text key (.low 3 n m) acc, k⟩ 48 = .go ⟨.text key .plain (acc ++ utf8 (65536 + 1024 * (n - 0xd800) + (16 * m + 0 - 0xdc00))), k⟩ := by simp [δ, dText, e0]
        exact ⟨48, _, by simp [pick, marks, List.find?, h34, h93, h125, h58, g0, Step.isGo], g0, hk' _ _ trivial, hlt _ _ (by simp) (by simp [tmCost])⟩

end Go.Proofs.YthgcnmdnjfajbaaGreatDoor.Jot
