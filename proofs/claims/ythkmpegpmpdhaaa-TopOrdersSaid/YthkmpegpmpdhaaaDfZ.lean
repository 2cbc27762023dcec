/- Ways in a graph of bounds, and the least matrix, in plain Lean. Conditions: none. -/
namespace Go.Proofs.Ythkmpegpmpdhaaa.Df
set_option linter.unusedSimpArgs false
set_option linter.unusedVariables false
/-- What stands for no bound. -/
def NoB : Int := 1099511627776
structure Bd where
  f : Int
  t : Int
  m : Int
/-- An edge of the graph of bounds. -/
def Edge (l : List Bd) (i j : Nat) (c : Int) : Prop := ∃ b ∈ l, b.f = (i : Int) ∧ b.t = (j : Int) ∧ b.m = c
inductive Wk (E : Nat → Nat → Int → Prop) : Nat → Nat → Int → Prop
  | nil (i : Nat) : Wk E i i 0
  | snoc {i k j : Nat} {c d : Int} : Wk E i k c → E k j d → Wk E i j (c + d)
theorem Wk.one {E : Nat → Nat → Int → Prop} {i j : Nat} {c : Int} (h : E i j c) : Wk E i j c := by
  have := Wk.snoc (Wk.nil (E := E) i) h; rwa [Int.zero_add] at this
theorem Wk.trans {E : Nat → Nat → Int → Prop} {i k : Nat} {c : Int} (h : Wk E i k c) : ∀ {j : Nat} {d : Int}, Wk E k j d → Wk E i j (c + d) := by
  intro j d h2
  induction h2 with
  | nil => rwa [Int.add_zero]
  | snoc h3 e ih => rw [← Int.add_assoc]; exact Wk.snoc ih e
theorem Wk.cast {E : Nat → Nat → Int → Prop} {i j : Nat} {c d : Int} (h : Wk E i j c) (e : c = d) : Wk E i j d := e ▸ h
theorem Wk.mono {E F : Nat → Nat → Int → Prop} (h : ∀ i j c, E i j c → F i j c) {i j : Nat} {c : Int} (hw : Wk E i j c) : Wk F i j c := by
  induction hw with
  | nil => exact Wk.nil _
  | snoc _ e ih => exact Wk.snoc ih (h _ _ _ e)
/-- No closed way is negative. -/
def NoNeg (E : Nat → Nat → Int → Prop) : Prop := ∀ i c, Wk E i i c → 0 ≤ c

section
variable {n : Nat} {E : Nat → Nat → Int → Prop}
def elF (g : Nat → Nat → Option Int) (i j : Nat) : Int := if i = j then min ((g i j).getD NoB) 0 else (g i j).getD NoB
def stepF (d : Nat → Nat → Int) (k i j : Nat) : Int := if d i k ≠ NoB ∧ d k j ≠ NoB then min (d i j) (d i k + d k j) else d i j
def itF (d : Nat → Nat → Int) : Nat → Nat → Nat → Int
  | 0 => d
  | k + 1 => stepF (itF d k) k
def contrB (n : Nat) (d : Nat → Nat → Int) : Bool := (List.range n).any fun i => decide (d i i < 0)
/-- The matrix of least bounds, if there is no contradiction. -/
def leastB (n : Nat) (d : Nat → Nat → Int) : Bool := (List.range (n + 1)).all fun k => !contrB n (itF d k)
theorem contr_false {d : Nat → Nat → Int} (h : contrB n d = false) : ∀ i, i < n → 0 ≤ d i i := by
  intro i hi
  simp only [contrB, List.any_eq_false, List.mem_range, decide_eq_true_eq] at h
  have := h i hi; omega
theorem contr_true {d : Nat → Nat → Int} (h : contrB n d = true) : ∃ i, i < n ∧ d i i < 0 := by
  simp only [contrB, List.any_eq_true, List.mem_range, decide_eq_true_eq] at h; exact h
/-- The bound on entries after k steps. -/
def Bnd (k : Nat) (d : Nat → Nat → Int) : Prop := ∀ i j, d i j = NoB ∨ (-(10000000 * 2 ^ k) ≤ d i j ∧ d i j ≤ 10000000 * 2 ^ k)
theorem two_pow_le {k : Nat} (h : k ≤ 13) : (1 : Int) ≤ 2 ^ k ∧ (2 : Int) ^ k ≤ 8192 := by
  have h1 : 1 ≤ 2 ^ k := Nat.one_le_two_pow
  have h2 : 2 ^ k ≤ 2 ^ 13 := Nat.pow_le_pow_right (by decide) h
  have e : ((2 ^ k : Nat) : Int) = (2 : Int) ^ k := by simp
  rw [← e]; constructor <;> omega
theorem Bnd.step {k : Nat} {d : Nat → Nat → Int} (h : Bnd k d) (hk : k ≤ 12) : Bnd (k + 1) (stepF d k) := by
  intro i j
  have hp := two_pow_le (k := k) (by omega)
  have e : (2 : Int) ^ (k + 1) = 2 * 2 ^ k := by rw [Int.pow_succ]; omega
  rw [e]
  unfold stepF
  have h1 := h i j
  have h2 := h i k
  have h3 := h k j
  generalize (2 : Int) ^ k = p at *
  unfold NoB at *
  split
  · rename_i hh
    have h2' := h2.resolve_left hh.1
    have h3' := h3.resolve_left hh.2
    right
    rcases h1 with h1 | h1
    · rw [h1]; omega
    · omega
  · rcases h1 with h1 | h1
    · exact .inl h1
    · right; omega
theorem Bnd.it {d : Nat → Nat → Int} (h : Bnd 0 d) : ∀ k, k ≤ 13 → Bnd k (itF d k)
  | 0, _ => h
  | k + 1, hk => (Bnd.it h k (by omega)).step (by omega)
/-- Every entry that stands is the length of a way. -/
def Sound (E : Nat → Nat → Int → Prop) (d : Nat → Nat → Int) : Prop := ∀ i j, d i j ≠ NoB → Wk E i j (d i j)
theorem Sound.step {d : Nat → Nat → Int} (h : Sound E d) (k : Nat) : Sound E (stepF d k) := by
  intro i j hij
  unfold stepF at hij ⊢
  split
  · rename_i hh
    rcases Int.le_total (d i j) (d i k + d k j) with hle | hle
    · rw [Int.min_eq_left hle]
      refine h i j ?_
      rw [if_pos hh, Int.min_eq_left hle] at hij; exact hij
    · rw [Int.min_eq_right hle]; exact (h i k hh.1).trans (h k j hh.2)
  · rename_i hh
    rw [if_neg hh] at hij; exact h i j hij
theorem Sound.it {d : Nat → Nat → Int} (h : Sound E d) : ∀ k, Sound E (itF d k)
  | 0 => h
  | k + 1 => (Sound.it h k).step k
/-- The triangle's law over the variables below k. -/
def Tri (n k : Nat) (d : Nat → Nat → Int) : Prop := ∀ i m j, i < n → m < k → m < n → j < n → d i m ≠ NoB → d m j ≠ NoB → d i j ≠ NoB ∧ d i j ≤ d i m + d m j
theorem step_le {k : Nat} {d : Nat → Nat → Int} (i j : Nat) : stepF d k i j ≤ d i j := by unfold stepF; split <;> omega
theorem step_col {k : Nat} {d : Nat → Nat → Int} (hk : 0 ≤ d k k) (i : Nat) : stepF d k i k = d i k := by unfold stepF; split <;> omega
theorem step_row {k : Nat} {d : Nat → Nat → Int} (hk : 0 ≤ d k k) (j : Nat) : stepF d k k j = d k j := by unfold stepF; split <;> omega
theorem Tri.step {k : Nat} {d : Nat → Nat → Int} (h : Tri n k d) (hb : Bnd k d) (hk12 : k ≤ 12) (hk : k < n) (hd : ∀ i, i < n → 0 ≤ d i i) (hd0 : ∀ i, i < n → d i i ≠ NoB) : Tri n (k + 1) (stepF d k) := by
  have hp := two_pow_le (k := k) (by omega)
  intro i m j hi hm hmn hj h1 h2
  have hkk := hd k hk
  have B := fun a b => hb a b
  -- what is not NoB lies far below it
  have small : ∀ a b, d a b ≠ NoB → d a b ≤ 10000000 * 2 ^ k ∧ -(10000000 * 2 ^ k) ≤ d a b := fun a b h => by have := (hb a b).resolve_left h; omega
  generalize (2 : Int) ^ k = p at *
  by_cases e : m = k
  · subst e
    rw [step_col hkk] at h1 ⊢
    rw [step_row hkk] at h2 ⊢
    have s1 := small i m h1
    have s2 := small m j h2
    have : stepF d m i j = min (d i j) (d i m + d m j) := by unfold stepF; rw [if_pos ⟨h1, h2⟩]
    rw [this]
    unfold NoB at *
    omega
  · have hmk : m < k := by omega
    -- the four ways to make the two entries
    have c1 : (stepF d k i m = d i m ∧ d i m ≠ NoB) ∨ (d i k ≠ NoB ∧ d k m ≠ NoB ∧ stepF d k i m = d i k + d k m) := by
      unfold stepF at h1 ⊢
      by_cases hh : d i k ≠ NoB ∧ d k m ≠ NoB
      · rw [if_pos hh] at h1 ⊢
        have s1 := small i k hh.1
        have s2 := small k m hh.2
        rcases Int.le_total (d i m) (d i k + d k m) with hle | hle
        · left; exact ⟨Int.min_eq_left hle, by unfold NoB at *; omega⟩
        · right; exact ⟨hh.1, hh.2, Int.min_eq_right hle⟩
      · rw [if_neg hh] at h1 ⊢; exact .inl ⟨rfl, h1⟩
    have c2 : (stepF d k m j = d m j ∧ d m j ≠ NoB) ∨ (d m k ≠ NoB ∧ d k j ≠ NoB ∧ stepF d k m j = d m k + d k j) := by
      unfold stepF at h2 ⊢
      by_cases hh : d m k ≠ NoB ∧ d k j ≠ NoB
      · rw [if_pos hh] at h2 ⊢
        have s1 := small m k hh.1
        have s2 := small k j hh.2
        rcases Int.le_total (d m j) (d m k + d k j) with hle | hle
        · left; exact ⟨Int.min_eq_left hle, by unfold NoB at *; omega⟩
        · right; exact ⟨hh.1, hh.2, Int.min_eq_right hle⟩
      · rw [if_neg hh] at h2 ⊢; exact .inl ⟨rfl, h2⟩
    -- an entry over k
    have over : d i k ≠ NoB → d k j ≠ NoB → stepF d k i j ≠ NoB ∧ stepF d k i j ≤ d i k + d k j := by
      intro a b
      have s1 := small i k a
      have s2 := small k j b
      have : stepF d k i j = min (d i j) (d i k + d k j) := by unfold stepF; rw [if_pos ⟨a, b⟩]
      rw [this]; unfold NoB at *; omega
    have under : d i j ≠ NoB → stepF d k i j ≠ NoB := by
      intro a
      have s1 := small i j a
      have := step_le (k := k) (d := d) i j
      unfold NoB at *; omega
    rcases c1 with ⟨e1, f1⟩ | ⟨f1, f1', e1⟩ <;> rcases c2 with ⟨e2, f2⟩ | ⟨f2, f2', e2⟩
    · have t := h i m j hi hmk hmn hj f1 f2
      have := step_le (k := k) (d := d) i j
      exact ⟨under t.1, by omega⟩
    · have t := h i m k hi hmk hmn hk f1 f2
      have o := over t.1 f2'
      exact ⟨o.1, by omega⟩
    · have t := h k m j hk hmk hmn hj f1' f2
      have o := over f1 t.1
      exact ⟨o.1, by omega⟩
    · have t := h k m k hk hmk hmn hk f1' f2
      have o := over f1 f2'
      exact ⟨o.1, by omega⟩
theorem it_le {d : Nat → Nat → Int} : ∀ (k i j : Nat), itF d k i j ≤ d i j
  | 0, _, _ => Int.le_refl _
  | k + 1, i, j => Int.le_trans (step_le i j) (it_le k i j)
/-- What the strongest bounds 'g' have to do with the graph. -/
structure GOf (E : Nat → Nat → Int → Prop) (n : Nat) (g : Nat → Nat → Option Int) : Prop where
  of : ∀ i j m, g i j = some m → E i j m
  to : ∀ i j c, E i j c → ∃ m, g i j = some m ∧ m ≤ c
  small : ∀ i j c, E i j c → -10000000 ≤ c ∧ c ≤ 10000000
  range : ∀ i j c, E i j c → i < n ∧ j < n
theorem el_sound {g : Nat → Nat → Option Int} (h : GOf E n g) : Sound E (elF g) := by
  intro i j hij
  unfold elF at hij ⊢
  cases hg : g i j with
  | none =>
    rw [hg] at hij
    by_cases e : i = j
    · subst e; simp only [if_true, Option.getD_none]; exact (Wk.nil i).cast (by unfold NoB; decide)
    · rw [if_neg e] at hij; exact absurd rfl hij
  | some m =>
    have hw := Wk.one (h.of i j m hg)
    by_cases e : i = j
    · subst e; simp only [if_true, Option.getD_some]
      rcases Int.le_total m 0 with hle | hle
      · rw [Int.min_eq_left hle]; exact hw
      · rw [Int.min_eq_right hle]; exact Wk.nil i
    · rw [if_neg e]; exact hw
theorem el_bnd {g : Nat → Nat → Option Int} (h : GOf E n g) : Bnd 0 (elF g) := by
  intro i j
  unfold elF
  cases hg : g i j with
  | none =>
    simp only [Option.getD_none]
    by_cases e : i = j
    · rw [if_pos e]; right; unfold NoB; omega
    · rw [if_neg e]; exact .inl rfl
  | some m =>
    have := h.small i j m (h.of i j m hg)
    simp only [Option.getD_some]
    right
    split <;> omega
/-- The least bounds of a graph without negative closed ways. -/
structure Least (E : Nat → Nat → Int → Prop) (n : Nat) (d : Nat → Nat → Int) : Prop where
  diag : ∀ i, i < n → d i i = 0
  sound : ∀ i j, d i j ≠ NoB → Wk E i j (d i j)
  full : ∀ i j c, i < n → Wk E i j c → j < n ∧ d i j ≠ NoB ∧ d i j ≤ c
theorem least_true {g : Nat → Nat → Option Int} (h : GOf E n g) (hn : n ≤ 12) (hl : leastB n (elF g) = true) : Least E n (itF (elF g) n) := by
  have hall : ∀ k, k ≤ n → ∀ i, i < n → 0 ≤ itF (elF g) k i i := by
    intro k hk
    simp only [leastB, List.all_eq_true, List.mem_range] at hl
    have := hl k (by omega)
    simp only [Bool.not_eq_true'] at this
    exact contr_false this
  have hbnd := fun k (hk : k ≤ 13) => (el_bnd h).it k hk
  have hd0 : ∀ k i, itF (elF g) k i i ≤ 0 := by
    intro k i
    refine Int.le_trans (it_le k i i) ?_
    unfold elF; rw [if_pos rfl]; omega
  have tri : ∀ k, k ≤ n → Tri n k (itF (elF g) k) := by
    intro k
    induction k with
    | zero => intro _ i m j _ hm; omega
    | succ k ih =>
      intro hk
      exact (ih (by omega)).step (hbnd k (by omega)) (by omega) (by omega) (hall k (by omega)) (fun i _ => by have := hd0 k i; unfold NoB; omega)
  have T := tri n (Nat.le_refl _)
  have edge : ∀ i j c, E i j c → itF (elF g) n i j ≠ NoB ∧ itF (elF g) n i j ≤ c := by
    intro i j c he
    obtain ⟨m, hm, hmc⟩ := h.to i j c he
    have hs := h.small i j m (h.of i j m hm)
    have h1 := it_le (d := elF g) n i j
    have h2 : elF g i j ≤ m := by unfold elF; rw [hm]; simp only [Option.getD_some]; split <;> omega
    unfold NoB; omega
  refine ⟨fun i hi => by have := hall n (Nat.le_refl _) i hi; have := hd0 n i; omega, (el_sound h).it n, ?_⟩
  intro i j c hi hw
  induction hw with
  | nil => exact ⟨hi, by have := hd0 n i; unfold NoB; omega, by have := hd0 n i; omega⟩
  | snoc hw he ih =>
    obtain ⟨h1, h2, h3⟩ := ih
    have hr := h.range _ _ _ he
    obtain ⟨e1, e2⟩ := edge _ _ _ he
    obtain ⟨t1, t2⟩ := T _ _ _ hi h1 h1 hr.2 h2 e1
    exact ⟨hr.2, t1, by omega⟩
theorem least_false {g : Nat → Nat → Option Int} (h : GOf E n g) (hl : leastB n (elF g) = false) : ¬ NoNeg E := by
  simp only [leastB, List.all_eq_false, List.mem_range] at hl
  obtain ⟨k, hk, hb⟩ := hl
  have hc : contrB n (itF (elF g) k) = true := by simpa using hb
  obtain ⟨i, hi, hneg⟩ := contr_true hc
  intro hno
  have hw := (el_sound h).it k i i (by unfold NoB; omega)
  have := hno i _ hw
  omega
theorem Least.noNeg {d : Nat → Nat → Int} (h : Least E n d) (hr : ∀ i j c, E i j c → i < n ∧ j < n) : NoNeg E := by
  intro i c hw
  by_cases hi : i < n
  · have := (h.full i i c hi hw).2.2
    rw [h.diag i hi] at this; exact this
  · -- a way from outside is empty
    have : ∀ {i j : Nat} {c : Int}, Wk E i j c → ¬ i < n → c = 0 ∧ j = i := by
      intro i j c hw hi
      induction hw with
      | nil => exact ⟨rfl, rfl⟩
      | snoc h1 e ih =>
        obtain ⟨h2, h3⟩ := ih
        have := hr _ _ _ e
        rw [h3] at this; omega
    rw [(this hw hi).1]; exact Int.le_refl _
theorem least_iff {g : Nat → Nat → Option Int} (h : GOf E n g) (hn : n ≤ 12) : leastB n (elF g) = true ↔ NoNeg E := by
  constructor
  · intro hl; exact (least_true h hn hl).noNeg h.range
  · intro hno
    cases hl : leastB n (elF g)
    · exact absurd hno (least_false h hl)
    · rfl
/-- There is one matrix of least bounds. -/
theorem Least.eq {E' : Nat → Nat → Int → Prop} {d d' : Nat → Nat → Int} (h : Least E n d) (h' : Least E' n d') (h1 : ∀ i j c, Wk E i j c → ∃ c', Wk E' i j c' ∧ c' ≤ c) (h2 : ∀ i j c, Wk E' i j c → ∃ c', Wk E i j c' ∧ c' ≤ c) : ∀ i j, i < n → j < n → d i j = d' i j := by
  intro i j hi hj
  by_cases e : d i j = NoB
  · by_cases e' : d' i j = NoB
    · rw [e, e']
    · obtain ⟨c, hc, _⟩ := h2 _ _ _ (h'.sound i j e')
      exact absurd e (h.full i j c hi hc).2.1
  · obtain ⟨c, hc, hle⟩ := h1 _ _ _ (h.sound i j e)
    have f1 := h'.full i j c hi hc
    obtain ⟨c', hc', hle'⟩ := h2 _ _ _ (h'.sound i j f1.2.1)
    have f2 := h.full i j c' hi hc'
    omega
end
end Go.Proofs.Ythkmpegpmpdhaaa.Df
