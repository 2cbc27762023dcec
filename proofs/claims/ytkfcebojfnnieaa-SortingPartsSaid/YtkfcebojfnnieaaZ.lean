/- Plain lists for the laws of layer 14. Conditions: none. -/
namespace Go.Proofs.Ytkfcebojfnnieaa
set_option linter.unusedSimpArgs false
set_option linter.unusedVariables false

def passF (P : Nat) (key : Int → Int) (l : List Int) : List Int := (List.range P).flatMap fun (p : Nat) => l.filter fun x => key x == (p : Int)

theorem passF_sub {P : Nat} {key : Int → Int} {l : List Int} {x : Int} (h : x ∈ passF P key l) : x ∈ l := by
  simp only [passF, List.mem_flatMap, List.mem_filter] at h
  obtain ⟨_, _, h, _⟩ := h
  exact h

theorem passF_pairwise {P : Nat} {key : Int → Int} {l : List Int} {R : Int → Int → Prop} (h : l.Pairwise R) :
    (passF P key l).Pairwise fun a b => key a < key b ∨ (key a = key b ∧ R a b) := by
  unfold passF
  rw [List.pairwise_flatMap]
  refine ⟨fun p _ => ?_, ?_⟩
  · have h1 := List.Pairwise.filter (fun x => key x == (p : Int)) h
    refine List.Pairwise.imp_of_mem ?_ h1
    intro a b ha hb hR
    simp only [List.mem_filter, beq_iff_eq] at ha hb
    exact .inr ⟨by omega, hR⟩
  · refine List.Pairwise.imp ?_ (List.pairwise_lt_range (n := P))
    intro p q hpq a ha b hb
    simp only [List.mem_filter, beq_iff_eq] at ha hb
    exact .inl (by omega)

theorem passF_append (P : Nat) (key : Int → Int) (l : List Int) : passF (P + 1) key l = passF P key l ++ l.filter fun x => key x == (P : Int) := by
  simp [passF, List.range_succ]

theorem count_passF (P : Nat) (key : Int → Int) (l : List Int) (x : Int) : (passF P key l).count x = if 0 ≤ key x ∧ key x < P then l.count x else 0 := by
  induction P with
  | zero =>
    rw [if_neg (by omega)]
    simp [passF]
  | succ P ih =>
    rw [passF_append, List.count_append, ih]
    by_cases e : key x = P
    · rw [if_neg (by omega), if_pos (by omega), List.count_filter (by simp [e])]; omega
    · have h0 : (l.filter fun x => key x == (P : Int)).count x = 0 := by
        rw [List.count_eq_zero]
        simp [e]
      rw [h0]
      by_cases h : 0 ≤ key x ∧ key x < P
      · rw [if_pos h, if_pos (by omega)]; rfl
      · rw [if_neg h, if_neg (by omega)]

theorem passF_perm {P : Nat} {key : Int → Int} {l : List Int} (h : ∀ x ∈ l, 0 ≤ key x ∧ key x < P) : (passF P key l).Perm l := by
  rw [List.perm_iff_count]
  intro x
  rw [count_passF]
  by_cases hx : 0 ≤ key x ∧ key x < P
  · rw [if_pos hx]
  · rw [if_neg hx]
    have : x ∉ l := fun hm => hx (h x hm)
    exact (List.count_eq_zero.2 this).symm

theorem passF_congr {P : Nat} {key key' : Int → Int} {l : List Int} (h : ∀ x ∈ l, key x = key' x) : passF P key l = passF P key' l := by
  unfold passF
  congr 1
  funext p
  exact List.filter_congr fun x hx => by rw [h x hx]

/-- The items 0 .. n-1. -/
def itemsF (n : Nat) : List Int := (List.range n).map Int.ofNat
def at' (l : List Int) (i : Int) : Int := l.getD i.toNat 0
def keyF (pocket dest : List Int) (item : Int) : Int := at' pocket (at' dest item)
def runF (P : Nat) (scheme : List (List Int)) (dest : List Int) : List Int := scheme.foldl (fun order pocket => passF P (keyF pocket dest) order) (itemsF dest.length)
def digit (P k d : Nat) : Nat := d / P ^ k % P
def rowF (P n k : Nat) : List Int := (List.range n).map fun d => (digit P k d : Int)
def schemeF (P passes n : Nat) : List (List Int) := (List.range passes).map (rowF P n)

theorem schemeF_succ (P k n : Nat) : schemeF P (k + 1) n = schemeF P k n ++ [rowF P n k] := by simp [schemeF, List.range_succ]
theorem runF_append (P : Nat) (s : List (List Int)) (p dest : List Int) : runF P (s ++ [p]) dest = passF P (keyF p dest) (runF P s dest) := by simp [runF, List.foldl_append]
theorem mem_items {n : Nat} {x : Int} : x ∈ itemsF n ↔ 0 ≤ x ∧ x < n := by
  simp only [itemsF, List.mem_map, List.mem_range]
  constructor
  · rintro ⟨a, ha, rfl⟩; simp; omega
  · intro h; exact ⟨x.toNat, by omega, by simp; omega⟩
theorem items_pairwise (n : Nat) : (itemsF n).Pairwise (· < ·) := by
  unfold itemsF
  rw [List.pairwise_map]
  exact List.Pairwise.imp (fun h => by simp; omega) (List.pairwise_lt_range (n := n))
theorem runF_sub {P : Nat} {dest : List Int} : ∀ {s : List (List Int)} {x : Int}, x ∈ runF P s dest → 0 ≤ x ∧ x < dest.length := by
  intro s
  suffices h : ∀ (s : List (List Int)) (l : List Int), (∀ x ∈ l, 0 ≤ x ∧ x < (dest.length : Int)) → ∀ x ∈ s.foldl (fun order pocket => passF P (keyF pocket dest) order) l, 0 ≤ x ∧ x < (dest.length : Int) by
    intro x hx
    exact h s _ (fun y hy => mem_items.1 hy) x hx
  intro s
  induction s with
  | nil => intro l h x hx; exact h x hx
  | cons p s ih => intro l h x hx; exact ih _ (fun y hy => h y (passF_sub hy)) x hx
theorem at_row {P n k : Nat} {d : Int} (h0 : 0 ≤ d) (h1 : d < n) : at' (rowF P n k) d = (digit P k d.toNat : Nat) := by
  have : d.toNat < n := by omega
  simp [at', rowF, List.getD_eq_getElem?_getD, this]
theorem mod_step {P k x y : Nat} (hP : 0 < P) (q : Prop) (h : digit P k x < digit P k y ∨ (digit P k x = digit P k y ∧ (x % P ^ k < y % P ^ k ∨ (x % P ^ k = y % P ^ k ∧ q)))) :
    x % P ^ (k + 1) < y % P ^ (k + 1) ∨ (x % P ^ (k + 1) = y % P ^ (k + 1) ∧ q) := by
  rw [Nat.mod_pow_succ, Nat.mod_pow_succ]
  have hp : 0 < P ^ k := Nat.pow_pos hP
  have hx := Nat.mod_lt x hp
  have hy := Nat.mod_lt y hp
  unfold digit at h
  generalize x / P ^ k % P = a at *
  generalize y / P ^ k % P = b at *
  generalize x % P ^ k = c at *
  generalize y % P ^ k = e at *
  generalize P ^ k = m at *
  rcases h with h | ⟨rfl, h⟩
  · left
    have : m * (a + 1) ≤ m * b := Nat.mul_le_mul_left m h
    rw [Nat.mul_add] at this
    omega
  · rcases h with h | ⟨rfl, h⟩
    · left; omega
    · right; exact ⟨rfl, h⟩
theorem run_scheme_pairwise {P n : Nat} {dest : List Int} (hP : 0 < P) (hd : ∀ x ∈ dest, 0 ≤ x ∧ x < (n : Int)) (k : Nat) :
    (runF P (schemeF P k n) dest).Pairwise fun a b => (at' dest a).toNat % P ^ k < (at' dest b).toNat % P ^ k ∨ ((at' dest a).toNat % P ^ k = (at' dest b).toNat % P ^ k ∧ a < b) := by
  induction k with
  | zero =>
    simp only [schemeF, runF, List.range_zero, List.map_nil, List.foldl_nil, Nat.pow_zero, Nat.mod_one]
    exact List.Pairwise.imp (fun h => .inr ⟨trivial, h⟩) (items_pairwise _)
  | succ k ih =>
    rw [schemeF_succ, runF_append]
    refine List.Pairwise.imp_of_mem ?_ (passF_pairwise (P := P) (key := keyF (rowF P n k) dest) ih)
    intro a b ha hb h
    have ha' := runF_sub (passF_sub ha)
    have hb' := runF_sub (passF_sub hb)
    have key : ∀ a : Int, 0 ≤ a ∧ a < (dest.length : Int) → keyF (rowF P n k) dest a = (digit P k (at' dest a).toNat : Nat) := by
      intro a ha
      have hm : at' dest a ∈ dest := by
        have : a.toNat < dest.length := by omega
        simp [at', List.getD_eq_getElem?_getD, this]
      exact at_row (hd _ hm).1 (hd _ hm).2
    rw [key a ha', key b hb'] at h
    refine mod_step hP _ ?_
    rcases h with h | ⟨h1, h2⟩
    · left; omega
    · right; exact ⟨by omega, h2⟩
/-- What 'stable' asks of two neighbours. -/
def sortedBy (dest : List Int) (l : List Int) : Prop := l.Pairwise fun a b => at' dest a < at' dest b ∨ (at' dest a = at' dest b ∧ a < b)
theorem at_mem {dest : List Int} {a : Int} (ha : 0 ≤ a ∧ a < (dest.length : Int)) : at' dest a ∈ dest := by
  have : a.toNat < dest.length := by omega
  simp [at', List.getD_eq_getElem?_getD, this]
theorem run_scheme_sorted {P n k : Nat} {dest : List Int} (hP : 0 < P) (hd : ∀ x ∈ dest, 0 ≤ x ∧ x < (n : Int)) (hn : n ≤ P ^ k) : sortedBy dest (runF P (schemeF P k n) dest) := by
  refine List.Pairwise.imp_of_mem ?_ (run_scheme_pairwise hP hd k)
  intro a b ha hb h
  have ha' := hd _ (at_mem (runF_sub ha))
  have hb' := hd _ (at_mem (runF_sub hb))
  rw [Nat.mod_eq_of_lt (by omega), Nat.mod_eq_of_lt (by omega)] at h
  omega
def schemeOk (P n : Nat) (s : List (List Int)) : Prop := ∀ r ∈ s, r.length = n ∧ ∀ x ∈ r, 0 ≤ x ∧ x < (P : Int)
theorem at_ok {P : Nat} {r : List Int} (h : ∀ x ∈ r, 0 ≤ x ∧ x < (P : Int)) (hP : 0 < P) (i : Int) : 0 ≤ at' r i ∧ at' r i < (P : Int) := by
  unfold at'
  by_cases hi : i.toNat < r.length
  · simp only [List.getD_eq_getElem?_getD, List.getElem?_eq_getElem hi, Option.getD_some]
    exact h _ (List.getElem_mem hi)
  · simp [List.getD_eq_getElem?_getD, List.getElem?_eq_none (Nat.le_of_not_lt hi)]; omega
theorem runF_perm {P n : Nat} {dest : List Int} (hP : 0 < P) : ∀ {s : List (List Int)}, schemeOk P n s → (runF P s dest).Perm (itemsF dest.length) := by
  suffices h : ∀ (s : List (List Int)) (l : List Int), schemeOk P n s → (s.foldl (fun order pocket => passF P (keyF pocket dest) order) l).Perm l from fun {s} hs => h s _ hs
  intro s
  induction s with
  | nil => intro l _; exact List.Perm.refl _
  | cons p s ih =>
    intro l h
    refine (ih _ (fun r hr => h r (List.mem_cons_of_mem _ hr))).trans (passF_perm ?_)
    intro x _
    exact at_ok (h p List.mem_cons_self).2 hP _
theorem schemeF_ok {P k n : Nat} (hP : 0 < P) : schemeOk P n (schemeF P k n) := by
  intro r hr
  simp only [schemeF, List.mem_map, List.mem_range] at hr
  obtain ⟨j, _, rfl⟩ := hr
  refine ⟨by simp [rowF], ?_⟩
  intro x hx
  simp only [rowF, List.mem_map, List.mem_range] at hx
  obtain ⟨d, _, rfl⟩ := hx
  have := Nat.mod_lt (d / P ^ j) hP
  unfold digit; omega
theorem runF_length {P n : Nat} {dest : List Int} {s : List (List Int)} (hP : 0 < P) (h : schemeOk P n s) : (runF P s dest).length = dest.length := by
  rw [(runF_perm hP h).length_eq]; simp [itemsF]
theorem passF_length {P : Nat} {key : Int → Int} {l : List Int} (h : ∀ x ∈ l, 0 ≤ key x ∧ key x < P) : (passF P key l).length = l.length := (passF_perm h).length_eq
/-- Two lists of the same things, each in a strict order. -/
theorem perm_eq {R : Int → Int → Prop} (hR : ∀ a b, R a b → R b a → False) : ∀ {l m : List Int}, l.Perm m → l.Pairwise R → m.Pairwise R → l = m := by
  intro l
  induction l with
  | nil => intro m h _ _; exact (List.nil_perm.1 h).symm
  | cons a l ih =>
    intro m h hl hm
    cases m with
    | nil => exact absurd h.symm (by simp)
    | cons b m =>
      have hab : a = b := by
        have ha : a ∈ b :: m := h.subset List.mem_cons_self
        have hb : b ∈ a :: l := h.symm.subset List.mem_cons_self
        rw [List.mem_cons] at ha hb
        rcases ha with rfl | ha
        · rfl
        · rcases hb with rfl | hb
          · rfl
          · exact (hR a b ((List.pairwise_cons.1 hl).1 b hb) ((List.pairwise_cons.1 hm).1 a ha)).elim
      subst hab
      rw [ih (List.perm_cons a |>.1 h) (List.pairwise_cons.1 hl).2 (List.pairwise_cons.1 hm).2]
theorem run_again {P n k : Nat} {dest : List Int} (hP : 0 < P) (hd : ∀ x ∈ dest, 0 ≤ x ∧ x < (n : Int)) (hn : n ≤ P ^ k) (hs : dest.Pairwise (· ≤ ·)) :
    runF P (schemeF P k n) dest = itemsF dest.length := by
  refine perm_eq (R := fun a b => at' dest a < at' dest b ∨ (at' dest a = at' dest b ∧ a < b)) ?_ (runF_perm hP (schemeF_ok (n := n) hP)) (run_scheme_sorted hP hd hn) ?_
  · intro a b h1 h2; omega
  · refine List.Pairwise.imp_of_mem ?_ (items_pairwise dest.length)
    intro a b ha hb hab
    rw [mem_items] at ha hb
    have hA : a.toNat < dest.length := by omega
    have hB : b.toNat < dest.length := by omega
    have h := List.pairwise_iff_getElem.1 hs a.toNat b.toNat hA hB (by omega)
    simp only [at', List.getD_eq_getElem?_getD, List.getElem?_eq_getElem hA, List.getElem?_eq_getElem hB, Option.getD_some]
    omega
theorem sorted_run {P n k : Nat} {dest : List Int} (hP : 0 < P) (hd : ∀ x ∈ dest, 0 ≤ x ∧ x < (n : Int)) (hn : n ≤ P ^ k) : ((runF P (schemeF P k n) dest).map (at' dest)).Pairwise (· ≤ ·) := by
  rw [List.pairwise_map]
  exact List.Pairwise.imp (fun h => by omega) (run_scheme_sorted hP hd hn)

theorem digits_inj {P K x y : Nat} (hP : 0 < P) (hx : x < P ^ K) (hy : y < P ^ K) (h : ∀ k, k < K → digit P k x = digit P k y) : x = y := by
  have : ∀ k, k ≤ K → x % P ^ k = y % P ^ k := by
    intro k
    induction k with
    | zero => intro _; simp [Nat.mod_one]
    | succ k ih =>
      intro hk
      have h1 := h k (by omega)
      unfold digit at h1
      rw [Nat.mod_pow_succ, Nat.mod_pow_succ, ih (by omega), h1]
  have := this K (Nat.le_refl _)
  rwa [Nat.mod_eq_of_lt hx, Nat.mod_eq_of_lt hy] at this
theorem rowF_take {P n m k : Nat} (h : m ≤ n) : (rowF P n k).take m = rowF P m k := by
  simp [rowF, ← List.map_take, List.take_range, Nat.min_eq_left h]
/-- No map of n things to fewer than n places keeps them apart. -/
theorem pigeon : ∀ (m n : Nat) (f : Nat → Nat), (∀ i, i < n → f i < m) → m < n → ∃ i j, i < j ∧ j < n ∧ f i = f j := by
  intro m
  induction m with
  | zero => intro n f hf hn; exact absurd (hf 0 hn) (by omega)
  | succ m ih =>
    intro n f hf hn
    by_cases h : ∃ i j, i < j ∧ j < n ∧ f i = f j
    · exact h
    · exfalso
      have hinj : ∀ i j, i < n → j < n → f i = f j → i = j := by
        intro i j hi hj e
        rcases Nat.lt_trichotomy i j with hlt | heq | hgt
        · exact absurd ⟨i, j, hlt, hj, e⟩ h
        · exact heq
        · exact absurd ⟨j, i, hgt, hi, e.symm⟩ h
      -- the place m is taken at most once: let the last thing move there
      obtain ⟨i, j, hij, hj, e⟩ := ih (n - 1) (fun i => if f i = m then f (n - 1) else f i) (by
        intro i hi
        by_cases hm : f i = m
        · rw [if_pos hm]
          have h1 := hf (n - 1) (by omega)
          have : f (n - 1) ≠ m := fun e => by
            have := hinj i (n - 1) (by omega) (by omega) (by omega)
            omega
          omega
        · rw [if_neg hm]
          have := hf i (by omega)
          omega) (by omega)
      by_cases h1 : f i = m <;> by_cases h2 : f j = m
      · have := hinj i j (by omega) (by omega) (by omega); omega
      · rw [if_pos h1, if_neg h2] at e
        have := hinj (n - 1) j (by omega) (by omega) e; omega
      · rw [if_neg h1, if_pos h2] at e
        have := hinj i (n - 1) (by omega) (by omega) e; omega
      · rw [if_neg h1, if_neg h2] at e
        have := hinj i j (by omega) (by omega) e; omega
def codeF (P : Nat) (v : Nat → Nat) : Nat → Nat
  | 0 => 0
  | k + 1 => codeF P v k + P ^ k * v k
theorem codeF_lt {P : Nat} {v : Nat → Nat} : ∀ {K : Nat}, (∀ k, k < K → v k < P) → codeF P v K < P ^ K := by
  intro K
  induction K with
  | zero => intro _; simp [codeF]
  | succ K ih =>
    intro h
    have h1 := ih fun k hk => h k (by omega)
    have h2 := h K (by omega)
    simp only [codeF, Nat.pow_succ]
    have : P ^ K * (v K + 1) ≤ P ^ K * P := Nat.mul_le_mul_left _ h2
    rw [Nat.mul_add] at this
    omega
theorem codeF_inj {P : Nat} {v u : Nat → Nat} : ∀ {K : Nat}, (∀ k, k < K → v k < P) → (∀ k, k < K → u k < P) → codeF P v K = codeF P u K → ∀ k, k < K → v k = u k := by
  intro K
  induction K with
  | zero => intro _ _ _ k hk; omega
  | succ K ih =>
    intro hv hu e k hk
    have h1 := codeF_lt (P := P) (v := v) (K := K) fun k hk => hv k (by omega)
    have h2 := codeF_lt (P := P) (v := u) (K := K) fun k hk => hu k (by omega)
    simp only [codeF] at e
    have hP : 0 < P ^ K := by omega
    have e1 : codeF P v K = codeF P u K := by
      have := congrArg (· % P ^ K) e
      simp only [Nat.add_mul_mod_self_left, Nat.mod_eq_of_lt h1, Nat.mod_eq_of_lt h2] at this
      exact this
    have e2 : v K = u K := Nat.eq_of_mul_eq_mul_left hP (by omega)
    rcases Nat.lt_or_ge k K with hlt | hge
    · exact ih (fun k hk => hv k (by omega)) (fun k hk => hu k (by omega)) e1 k hlt
    · have : k = K := by omega
      subst this; exact e2
/-- A pass over items that share their pocket. -/
theorem passF_one {key : Int → Int} {l : List Int} {c : Int} (h : ∀ x ∈ l, key x = c) (hc : 0 ≤ c) (P : Nat) : passF P key l = if c < (P : Int) then l else [] := by
  induction P with
  | zero => rw [if_neg (by omega)]; simp [passF]
  | succ P ih =>
    rw [passF_append, ih]
    by_cases e : c = P
    · rw [if_neg (by omega), if_pos (by omega), List.nil_append, List.filter_eq_self]
      intro x hx; rw [h x hx, e]; simp
    · have : (l.filter fun x => key x == (P : Int)) = [] := by
        rw [List.filter_eq_nil_iff]
        intro x hx; rw [h x hx]; simp [e]
      rw [this, List.append_nil]
      by_cases hlt : c < P
      · rw [if_pos hlt, if_pos (by omega)]
      · rw [if_neg hlt, if_neg (by omega)]
theorem passF_same {P : Nat} {key : Int → Int} {l : List Int} {c : Int} (hc : 0 ≤ c ∧ c < (P : Int)) (h : ∀ x ∈ l, key x = c) : passF P key l = l := by
  rw [passF_one h hc.1, if_pos hc.2]
theorem runF_same {P : Nat} {dest : List Int} : ∀ {s : List (List Int)}, (∀ r ∈ s, ∃ c : Int, 0 ≤ c ∧ c < (P : Int) ∧ ∀ i, 0 ≤ i ∧ i < (dest.length : Int) → keyF r dest i = c) → runF P s dest = itemsF dest.length := by
  suffices h : ∀ (s : List (List Int)) (l : List Int), (∀ x ∈ l, 0 ≤ x ∧ x < (dest.length : Int)) → (∀ r ∈ s, ∃ c : Int, 0 ≤ c ∧ c < (P : Int) ∧ ∀ i, 0 ≤ i ∧ i < (dest.length : Int) → keyF r dest i = c) →
      s.foldl (fun order pocket => passF P (keyF pocket dest) order) l = l from fun {s} hs => h s _ (fun x hx => mem_items.1 hx) hs
  intro s
  induction s with
  | nil => intro l _ _; rfl
  | cons p s ih =>
    intro l hl hs
    obtain ⟨c, h0, h1, hc⟩ := hs p List.mem_cons_self
    rw [List.foldl_cons, passF_same ⟨h0, h1⟩ (fun x hx => hc x (hl x hx))]
    exact ih l hl (fun r hr => hs r (List.mem_cons_of_mem _ hr))
theorem passF_filter {P : Nat} {key : Int → Int} {l : List Int} (q : Int → Bool) : (passF P key l).filter q = passF P key (l.filter q) := by
  unfold passF
  rw [List.filter_flatMap]
  congr 1
  funext p
  rw [List.filter_filter, List.filter_filter]
  exact List.filter_congr fun x _ => Bool.and_comm _ _
theorem passF_map {P : Nat} {key key' : Int → Int} {l : List Int} (f : Int → Int) (h : ∀ x ∈ l, key (f x) = key' x) : passF P key (l.map f) = (passF P key' l).map f := by
  unfold passF
  rw [List.map_flatMap]
  congr 1
  funext p
  rw [List.filter_map]
  congr 1
  exact List.filter_congr fun x hx => by simp [h x hx]
/-- A run over a part of the items: 'index' tells where the part's items stand among all. -/
theorem runF_part {P : Nat} {dest part index : List Int} (q : Int → Bool) (hl : part.length = index.length) (hi : index = (itemsF dest.length).filter q)
    (hp : ∀ i, 0 ≤ i ∧ i < (part.length : Int) → at' part i = at' dest (at' index i)) : ∀ {s : List (List Int)}, (runF P s dest).filter q = (runF P s part).map (at' index) := by
  suffices h : ∀ (s : List (List Int)) (l m : List Int), l.filter q = m.map (at' index) → (∀ x ∈ m, 0 ≤ x ∧ x < (part.length : Int)) →
      (s.foldl (fun order pocket => passF P (keyF pocket dest) order) l).filter q = (s.foldl (fun order pocket => passF P (keyF pocket part) order) m).map (at' index) by
    intro s
    refine h s _ _ ?_ (fun x hx => mem_items.1 hx)
    rw [← hi, hl]
    unfold itemsF at'
    apply List.ext_getElem
    · simp
    · intro i h1 h2
      simp [List.getD_eq_getElem?_getD, h1]
  intro s
  induction s with
  | nil => intro l m h _; exact h
  | cons p s ih =>
    intro l m h hm
    rw [List.foldl_cons, List.foldl_cons]
    refine ih _ _ ?_ (fun x hx => hm x (passF_sub hx))
    rw [passF_filter, h]
    refine passF_map _ fun x hx => ?_
    unfold keyF
    rw [hp x (hm x hx)]
end Go.Proofs.Ytkfcebojfnnieaa
