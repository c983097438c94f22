/- Registers, labels and mnemonics are as the document says. -/
import Derived.Test.YtlbfhddhojejfaaDoorPAtoi
set_option linter.all false
namespace Rv
open Go

/-- A register's name. -/
def regN (k : Nat) : Str := if k < 10 then [82, UInt8.ofNat (48 + k)] else [82, 49, UInt8.ofNat (38 + k)]
def regOf (s : Str) : Int × Bool := match (List.range 16).find? (fun k => regN k == s) with | some k => ((k : Int), true) | none => (0, false)

theorem reg_facts : ((List.range 16).all fun k => decide (name_RegName.g (k : Int) = some (regN k, ())) && decide (rivetref13_RegName.g (k : Int) = some (regN k, ())) && decide (name_Reg.g (regN k) = some ((k : Int), true, ()))) = true := by decide +kernel
theorem reg_fact (k : Nat) (hk : k < 16) : name_RegName.g (k : Int) = some (regN k, ()) ∧ rivetref13_RegName.g (k : Int) = some (regN k, ()) ∧ name_Reg.g (regN k) = some ((k : Int), true, ()) := by
  have := List.all_eq_true.1 reg_facts k (List.mem_range.2 hk)
  simpa [and_assoc] using this

theorem regName_out {v : Int} (h : v < 0 ∨ 16 ≤ v) : name_RegName.g v = some ([], ()) := by
  unfold name_RegName.g name_RegName.f
  by_cases h0 : v < 0
  · rw [if_neg (by simp; omega)]
  · rw [if_pos (by simp; omega), if_pos (by simp; omega)]
theorem rregName_out {v : Int} (h : v < 0 ∨ 16 ≤ v) : rivetref13_RegName.g v = some ([], ()) := by
  unfold rivetref13_RegName.g rivetref13_RegName.f
  by_cases h0 : v < 0
  · rw [if_neg (by simp; omega)]
  · rw [if_pos (by simp; omega), if_pos (by simp; omega)]

theorem regName_cases (v : Int) : ∃ s, name_RegName.g v = some (s, ()) ∧ rivetref13_RegName.g v = some (s, ()) ∧ (s ≠ [] → ∃ k : Nat, k < 16 ∧ v = (k : Int) ∧ s = regN k) := by
  by_cases h : v < 0 ∨ 16 ≤ v
  · exact ⟨[], regName_out h, rregName_out h, fun e => absurd rfl e⟩
  · obtain ⟨k, rfl⟩ : ∃ k : Nat, v = (k : Int) := ⟨v.toNat, by omega⟩
    have hk : k < 16 := by omega
    exact ⟨regN k, (reg_fact k hk).1, (reg_fact k hk).2.1, fun _ => ⟨k, hk, rfl, rfl⟩⟩

theorem cut_nil {s p : Str} (h : L.cutIs s p = true) (hp : p ≠ []) : s ≠ [] := by
  rintro rfl
  cases p with
  | nil => exact hp rfl
  | cons a l => simp [L.cutIs, Lib.hasPrefix] at h

theorem regOf_some {s : Str} {k : Nat} (h : (List.range 16).find? (fun k => regN k == s) = some k) : k < 16 ∧ regN k = s := by
  have h1 := List.mem_of_find?_eq_some h
  have h2 := List.find?_some h
  exact ⟨List.mem_range.1 h1, by simpa using h2⟩

theorem reg_eq (s : Str) (hs : s.length ≤ 1000) : name_Reg.g s = some ((regOf s).1, (regOf s).2, ()) := by
  unfold regOf
  cases hf : (List.range 16).find? (fun k => regN k == s) with
  | some k =>
    obtain ⟨h1, h2⟩ := regOf_some hf
    have := (reg_fact k h1).2.2
    rw [h2] at this
    exact this
  | none =>
    have hno : ∀ k, k < 16 → regN k ≠ s := fun k hk e => by
      have := List.find?_eq_none.1 hf k (List.mem_range.2 hk)
      simp [e] at this
    unfold name_Reg.g name_Reg.f
    obtain ⟨v, b, hvb⟩ := atoi_some (L.cutRest s [82]) (by
      unfold L.cutRest Lib.trimPrefix
      split
      · rw [List.length_drop]; omega
      · omega)
    rw [hvb, Option.bind_some]
    dsimp only
    cases hc : L.cutIs s [82] with
    | false => rfl
    | true =>
      rw [if_pos (by decide)]
      cases b with
      | false => rfl
      | true =>
        rw [if_pos (by decide)]
        obtain ⟨t, ht, _, hk⟩ := regName_cases v
        rw [ht, Option.bind_some]
        dsimp only
        by_cases e : t = s
        · have hne := cut_nil hc (by decide)
          obtain ⟨k, hk1, _, hk2⟩ := hk (by rw [e]; exact hne)
          exact absurd (hk2.symm.trans e) (hno k hk1)
        · rw [if_pos (by simp [e])]

theorem rreg_loop (s : Str) (n : Nat) : ∀ (m i : Nat), i ≤ 16 → 16 - i < m → (∀ k, k < i → regN k ≠ s) → rivetref13_Reg.l2 n m s (i : Int) = some ((regOf s).1, (regOf s).2, ()) := by
  intro m
  induction m with
  | zero => intro i _ h; omega
  | succ m ih =>
    intro i hi hm hno
    unfold rivetref13_Reg.l2
    by_cases hlt : i < 16
    · rw [if_pos (by simp; omega), (reg_fact i hlt).2.1, Option.bind_some]
      dsimp only
      by_cases e : regN i = s
      · rw [if_pos (by simp [e])]
        have : regOf s = ((i : Int), true) := by
          unfold regOf
          cases hf : (List.range 16).find? (fun k => regN k == s) with
          | none => exact absurd e (by have := List.find?_eq_none.1 hf i (List.mem_range.2 hlt); simpa using this)
          | some k =>
            obtain ⟨h1, h2⟩ := regOf_some hf
            have hge : ¬ k < i := fun h => hno k h h2
            have hle : ¬ i < k := fun h => by
              rw [List.find?_eq_some_iff_getElem] at hf
              obtain ⟨_, j, hj, hjk, hb⟩ := hf
              have hjk' : j = k := by simpa using hjk
              have := hb i (by omega)
              simp [e] at this
            have : k = i := by omega
            rw [this]
        rw [this]
      · rw [if_neg (by simp [e])]
        have w1 : IntKind.i64.wrap ((i : Int) + 1) = ((i + 1 : Nat) : Int) := by rw [w64 (by omega)]; omega
        rw [w1]
        exact ih (i + 1) (by omega) (by omega) fun k hk => by
          by_cases h : k = i
          · rw [h]; exact e
          · exact hno k (by omega)
    · rw [if_neg (by simp; omega)]
      have : regOf s = (0, false) := by
        unfold regOf
        cases hf : (List.range 16).find? (fun k => regN k == s) with
        | none => rfl
        | some k =>
          obtain ⟨h1, h2⟩ := regOf_some hf
          exact absurd h2 (hno k (by omega))
      rw [this]

theorem rreg_eq (s : Str) : rivetref13_Reg.g s = some ((regOf s).1, (regOf s).2, ()) := by
  unfold rivetref13_Reg.g rivetref13_Reg.f
  exact rreg_loop s _ _ 0 (by omega) (by omega) fun k hk => by omega

/- The document's mnemonics. -/
def rmRow (k : Nat) : Bool := (List.range 16).all fun o => [true, false].all fun u => decide (rivetref13_Mnemonic.g (k : Int) (o : Int) u = some (L.mnemR (k : Int) (o : Int) u, ()))
theorem rm_rows : ((List.range 11).all rmRow) = true := by decide +kernel

theorem mnemR_out {k o : Int} {u : Bool} (h : k < 0 ∨ 10 < k ∨ o < 0 ∨ 15 < o) : L.mnemR k o u = [] := by
  by_cases e : L.mnemR k o u = []
  · exact e
  · have := (mnem_of e).2
    omega

theorem rmnem_eq (k o : Int) (u : Bool) : rivetref13_Mnemonic.g k o u = some (L.mnemR k o u, ()) := by
  by_cases h : k < 0 ∨ 10 < k ∨ o < 0 ∨ 15 < o
  · rw [mnemR_out h]
    unfold rivetref13_Mnemonic.g
    generalize 1000 + k.toNat + o.toNat = n
    have h23 : rivetref13_Mnemonic.j23 n k o = some ([], ()) := by
      unfold rivetref13_Mnemonic.j23
      by_cases h0 : o = 0
      · rw [if_neg (by simp [h0]), if_neg (by simp; omega), if_neg (by simp; omega), if_neg (by simp; omega), if_neg (by simp; omega), if_neg (by simp; omega)]
      · rw [if_pos (by simp [h0])]
    have h21 : rivetref13_Mnemonic.j21 n k o = some ([], ()) := by
      unfold rivetref13_Mnemonic.j21
      by_cases h0 : k = 5
      · rw [if_pos (by simp [h0])]
        by_cases h1 : 0 ≤ o
        · rw [if_pos (by simpa using h1), if_neg (by simp; omega)]; exact h23
        · rw [if_neg (by simpa using h1)]; exact h23
      · rw [if_neg (by simp [h0])]; exact h23
    have h17 : rivetref13_Mnemonic.j17 n k o u = some ([], ()) := by
      unfold rivetref13_Mnemonic.j17
      cases u with
      | true => rw [if_pos rfl]
      | false =>
        rw [if_neg (by decide)]
        by_cases h0 : k = 1
        · rw [if_pos (by simp [h0])]
          by_cases h1 : 0 ≤ o
          · rw [if_pos (by simpa using h1), if_neg (by simp; omega)]; exact h21
          · rw [if_neg (by simpa using h1)]; exact h21
        · rw [if_neg (by simp [h0])]; exact h21
    have st : ∀ (c : Int) (x y : Option (Str × Unit)), (0 ≤ c ∧ c ≤ 15) → y = some ([], ()) → (if (decide (k = 1)) = true then (if u = true then (if (decide (o = c)) = true then x else y) else y) else y) = some ([], ()) := by
      intro c x y hc hy
      by_cases h0 : k = 1
      · rw [if_pos (by simp [h0])]
        split
        · rw [if_neg (by simp; omega)]; exact hy
        · exact hy
      · rw [if_neg (by simp [h0])]; exact hy
    have h9 : rivetref13_Mnemonic.j9 n k o u = some ([], ()) := by
      unfold rivetref13_Mnemonic.j9
      refine st 0 _ _ (by omega) ?_
      unfold rivetref13_Mnemonic.j11
      refine st 8 _ _ (by omega) ?_
      unfold rivetref13_Mnemonic.j13
      refine st 9 _ _ (by omega) ?_
      unfold rivetref13_Mnemonic.j15
      exact st 10 _ _ (by omega) h17
    unfold rivetref13_Mnemonic.f
    by_cases h0 : k = 7
    · rw [if_pos (by simp [h0])]
      by_cases h1 : 0 ≤ o
      · rw [if_pos (by simpa using h1), if_neg (by simp; omega)]; exact h9
      · rw [if_neg (by simpa using h1)]; exact h9
    · rw [if_neg (by simp [h0])]; exact h9
  · obtain ⟨a, rfl⟩ : ∃ a : Nat, k = (a : Int) := ⟨k.toNat, by omega⟩
    obtain ⟨b, rfl⟩ : ∃ b : Nat, o = (b : Int) := ⟨o.toNat, by omega⟩
    have h1 := List.all_eq_true.1 rm_rows a (List.mem_range.2 (by omega))
    unfold rmRow at h1
    have h2 := List.all_eq_true.1 h1 b (List.mem_range.2 (by omega))
    have h3 := List.all_eq_true.1 h2 u (by cases u <;> simp)
    simpa using h3

/- What a mnemonic is of. -/
theorem rof_inner (s : Str) (rl : Str → Int → Option (Int × Int × Bool × Bool × Unit)) (k : Nat) (hk : k < 11) (n : Nat) : ∀ (m i : Nat), i ≤ 16 → 16 - i < m →
    (∀ (j : Nat) u, j < i → L.mnemR k j u ≠ s) →
    (∃ o u, L.mnemR k o u = s ∧ s ≠ [] ∧ rivetref13_Of.l7 n rl m s (k : Int) (i : Int) = some ((k : Int), o, u, true, ())) ∨ ((s ≠ [] → ∀ o u, L.mnemR k o u ≠ s) ∧ (s ≠ [] → rivetref13_Of.l7 n rl m s (k : Int) (i : Int) = rl s (IntKind.i64.wrap ((k : Int) + 1)))) ∨ s = [] := by
  intro m
  induction m with
  | zero => intro i _ h; omega
  | succ m ih =>
    intro i hi hm hno
    by_cases hs : s = []
    · exact Or.inr (Or.inr hs)
    unfold rivetref13_Of.l7
    by_cases hlt : i < 16
    · rw [if_pos (by simp; omega), rmnem_eq, Option.bind_some]
      dsimp only
      by_cases e1 : L.mnemR (k : Int) (i : Int) false = s
      · rw [if_pos (by simp [e1])]
        exact Or.inl ⟨_, _, e1, hs, rfl⟩
      · rw [if_neg (by simp [e1]), rmnem_eq, Option.bind_some]
        dsimp only
        by_cases e2 : L.mnemR (k : Int) (i : Int) true = s
        · rw [if_pos (by simp [e2])]
          exact Or.inl ⟨_, _, e2, hs, rfl⟩
        · rw [if_neg (by simp [e2])]
          have w1 : IntKind.i64.wrap ((i : Int) + 1) = ((i + 1 : Nat) : Int) := by rw [w64 (by omega)]; omega
          rw [w1]
          exact ih (i + 1) (by omega) (by omega) fun j u hj => by
            by_cases h : j = i
            · subst h; cases u <;> assumption
            · exact hno j u (by omega)
    · rw [if_neg (by simp; omega)]
      refine Or.inr (Or.inl ⟨fun _ o u e => ?_, fun _ => rfl⟩)
      have hr := (mnem_of (e ▸ hs : L.mnemR (k : Int) o u ≠ [])).2
      obtain ⟨j, rfl⟩ : ∃ j : Nat, o = (j : Int) := ⟨o.toNat, by omega⟩
      exact hno j u (by omega) e

theorem rof_loop (s : Str) (hs : s ≠ []) (n : Nat) (hn : 16 < n) : ∀ (m k : Nat), k ≤ 11 → 11 - k < m → (∀ (j : Nat) o u, j < k → L.mnemR j o u ≠ s) → rivetref13_Of.l4 n m s (k : Int) = some (L.ofR s) := by
  intro m
  induction m with
  | zero => intro k _ h; omega
  | succ m ih =>
    intro k hk hm hno
    unfold rivetref13_Of.l4
    by_cases hlt : k < 11
    · rw [if_pos (by simp; omega)]
      rcases rof_inner s (rivetref13_Of.l4 n m) k hlt n n 0 (by omega) (by omega) (fun j u hj => by omega) with ⟨o, u, e, _, h⟩ | ⟨h1, h2⟩ | h
      · have h' : rivetref13_Of.l7 n (rivetref13_Of.l4 n m) n s (k : Int) 0 = some ((k : Int), o, u, true, ()) := h
        rw [h', ← e, (mnem_of (e ▸ hs : L.mnemR (k : Int) o u ≠ [])).1]
      · have h' : rivetref13_Of.l7 n (rivetref13_Of.l4 n m) n s (k : Int) 0 = rivetref13_Of.l4 n m s (IntKind.i64.wrap ((k : Int) + 1)) := h2 hs
        rw [h']
        have w1 : IntKind.i64.wrap ((k : Int) + 1) = ((k + 1 : Nat) : Int) := by rw [w64 (by omega)]; omega
        rw [w1]
        exact ih (k + 1) (by omega) (by omega) fun j o u hj => by
          by_cases h : j = k
          · subst h; exact h1 hs o u
          · exact hno j o u (by omega)
      · exact absurd h hs
    · rw [if_neg (by simp; omega)]
      rw [ofR_none fun k' o' u' e => by
        by_cases h0 : s = []
        · exact h0
        · exfalso
          have hr := (mnem_of (e ▸ h0 : L.mnemR k' o' u' ≠ [])).2
          obtain ⟨j, rfl⟩ : ∃ j : Nat, k' = (j : Int) := ⟨k'.toNat, by omega⟩
          exact hno j o' u' (by omega) e]

theorem rof_eq (s : Str) : rivetref13_Of.g s = some (L.ofR s) := by
  unfold rivetref13_Of.g rivetref13_Of.f
  by_cases h : s = []
  · rw [if_pos (by simp [h]), h]; rfl
  · rw [if_neg (by simp [h])]
    exact rof_loop s h _ (by omega) _ 0 (by omega) (by omega) fun j o u hj => by omega

theorem nall_wf {s : Str} {k o : Int} (h : s.length ≤ maxLen ∧ (Lit.int .i64 k).wf = true ∧ (Lit.int .i64 o).wf = true ∧ True) : rivetlaw13_NameAll.g s k o = some (true, ()) := by
  obtain ⟨h1, h2, h3, _⟩ := h
  have hk := wfI64 h2
  have ho := wfI64 h3
  unfold rivetlaw13_NameAll.g
  generalize 1000 + s.length + k.toNat + o.toNat = n
  unfold rivetlaw13_NameAll.f
  rw [shown13, Option.bind_some, few13 s (wfLen h1), Option.bind_some]
  dsimp only
  have hl : (s.take 20).length ≤ 20 := by rw [List.length_take]; omega
  generalize s.take 20 = w at hl
  obtain ⟨t, ht, ht', _⟩ := regName_cases o
  have hof : L.nameOfO w = some (L.ofR w) := rfl
  rw [reg_eq w (by omega), rreg_eq w, hof, rof_eq w]
  simp only [Option.bind_some]
  rw [label_eq w, rlabel_eq w (by omega), mnemO_eq true hk ho, mnemO_eq false hk ho, rmnem_eq, rmnem_eq, ht, ht']
  simp
end Rv
