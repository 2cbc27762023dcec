/- Parts of an amount, balances, payments that bring balances to zero, in plain Lean. Conditions: none. -/
namespace Go.Proofs.Ythkmpegpmpdhaaa
set_option linter.unusedSimpArgs false
set_option linter.unusedVariables false
def sumL : List Int → Int
  | [] => 0
  | x :: l => x + sumL l
def at0 (l : List Int) (i : Nat) : Int := l.getD i 0
theorem sumL_append (l m : List Int) : sumL (l ++ m) = sumL l + sumL m := by
  induction l with
  | nil => simp [sumL]
  | cons x l ih => simp only [List.cons_append, sumL, ih]; omega
theorem at0_nil (i : Nat) : at0 [] i = 0 := rfl
theorem at0_zero (x : Int) (l : List Int) : at0 (x :: l) 0 = x := rfl
theorem at0_succ (x : Int) (l : List Int) (i : Nat) : at0 (x :: l) (i + 1) = at0 l i := rfl
theorem at0_get {l : List Int} {i : Nat} {x : Int} (h : l[i]? = some x) : at0 l i = x := by simp [at0, List.getD_eq_getElem?_getD, h]
theorem get_at0 {l : List Int} {i : Nat} (h : i < l.length) : l[i]? = some (at0 l i) := by
  rw [List.getElem?_eq_getElem h]; simp [at0, List.getD_eq_getElem?_getD, h]
theorem at0_out {l : List Int} {i : Nat} (h : l.length ≤ i) : at0 l i = 0 := by simp [at0, List.getD_eq_getElem?_getD, List.getElem?_eq_none h]
theorem at0_set {l : List Int} {i : Nat} (v : Int) (h : i < l.length) (j : Nat) : at0 (l.set i v) j = if j = i then v else at0 l j := by
  unfold at0
  simp only [List.getD_eq_getElem?_getD, List.getElem?_set]
  by_cases e : i = j
  · subst e; simp [h]
  · rw [if_neg e, if_neg (fun h => e h.symm)]
theorem sumL_set : ∀ {l : List Int} {i : Nat} (v : Int), i < l.length → sumL (l.set i v) = sumL l - at0 l i + v
  | [], _, _, h => by simp at h
  | x :: l, 0, v, _ => by simp only [List.set_cons_zero, sumL, at0_zero]; omega
  | x :: l, i + 1, v, h => by
    have := sumL_set (l := l) (i := i) v (by simpa using h)
    simp only [List.set_cons_succ, sumL, at0_succ, this]; omega
/-- How many are not 0. -/
def nz : List Int → Nat
  | [] => 0
  | x :: l => (if x = 0 then 0 else 1) + nz l
theorem nz_set : ∀ {l : List Int} {i : Nat} (v : Int), i < l.length → nz (l.set i v) + (if at0 l i = 0 then 0 else 1) = nz l + (if v = 0 then 0 else 1)
  | [], _, _, h => by simp at h
  | x :: l, 0, v, _ => by
    simp only [List.set_cons_zero, nz, at0_zero]
    by_cases c1 : x = 0 <;> by_cases c2 : v = 0 <;> simp [c1, c2] <;> omega
  | x :: l, i + 1, v, h => by
    have := nz_set (l := l) (i := i) v (by simpa using h)
    simp only [List.set_cons_succ, nz, at0_succ]
    by_cases c1 : x = 0 <;> by_cases c2 : v = 0 <;> by_cases c3 : at0 l i = 0 <;> simp [c1, c2, c3] at this ⊢ <;> omega
theorem nz_le : ∀ l : List Int, nz l ≤ l.length
  | [] => by simp [nz]
  | x :: l => by have := nz_le l; simp only [nz, List.length_cons]; split <;> omega
theorem nz_zero : ∀ {l : List Int}, nz l = 0 → sumL l = 0 ∧ ∀ i, at0 l i = 0
  | [], _ => ⟨rfl, fun i => rfl⟩
  | x :: l, h => by
    simp only [nz] at h
    by_cases e : x = 0
    · rw [if_pos e] at h
      obtain ⟨h1, h2⟩ := nz_zero (l := l) (by omega)
      refine ⟨by simp only [sumL]; omega, fun i => ?_⟩
      cases i with
      | zero => exact e
      | succ i => exact h2 i
    · rw [if_neg e] at h; omega
theorem nz_pos {l : List Int} {i : Nat} (h : at0 l i ≠ 0) : 1 ≤ nz l := by
  by_cases e : nz l = 0
  · exact absurd ((nz_zero e).2 i) h
  · omega
theorem nz_one : ∀ {l : List Int}, sumL l = 0 → nz l ≠ 1
  | [], _ => by simp [nz]
  | x :: l, h => by
    intro hn
    simp only [nz] at hn
    simp only [sumL] at h
    by_cases e : x = 0
    · rw [if_pos e] at hn
      exact nz_one (l := l) (by omega) (by omega)
    · rw [if_neg e] at hn
      have := (nz_zero (l := l) (by omega)).1
      omega
/-- One payment. -/
structure Mv where
  f : Nat
  t : Nat
  a : Int
def mvL (l : List Int) (p : Mv) : List Int := (l.set p.f (at0 l p.f + p.a)).set p.t (at0 (l.set p.f (at0 l p.f + p.a)) p.t - p.a)
/-- What a payment does to an account. -/
def eff1 (p : Mv) (k : Nat) : Int := (if k = p.f then p.a else 0) - (if k = p.t then p.a else 0)
def effL : List Mv → Nat → Int
  | [], _ => 0
  | p :: ps, k => eff1 p k + effL ps k
theorem effL_append (l m : List Mv) (k : Nat) : effL (l ++ m) k = effL l k + effL m k := by
  induction l with
  | nil => simp [effL]
  | cons x l ih => simp only [List.cons_append, effL, ih]; omega
theorem mvL_len (l : List Int) (p : Mv) : (mvL l p).length = l.length := by simp [mvL]
theorem mvL_at {l : List Int} {p : Mv} (hf : p.f < l.length) (ht : p.t < l.length) (k : Nat) : at0 (mvL l p) k = at0 l k + eff1 p k := by
  unfold mvL
  rw [at0_set _ (by simpa using ht), at0_set _ hf, at0_set _ hf]
  unfold eff1
  by_cases e1 : k = p.t <;> by_cases e2 : k = p.f <;> by_cases e3 : p.t = p.f <;> simp_all <;> omega
theorem mvL_sum {l : List Int} {p : Mv} (hf : p.f < l.length) (ht : p.t < l.length) : sumL (mvL l p) = sumL l := by
  unfold mvL
  rw [sumL_set _ (by simpa using ht), sumL_set _ hf]; omega
/-- A payment that is as great as it can be. -/
structure Best (l : List Int) (p : Mv) : Prop where
  f : p.f < l.length
  t : p.t < l.length
  neg : at0 l p.f < 0
  pos : 0 < at0 l p.t
  a : p.a = min (- at0 l p.f) (at0 l p.t)
theorem Best.ne {l : List Int} {p : Mv} (h : Best l p) : p.f ≠ p.t := fun e => by have := h.neg; have := h.pos; rw [e] at *; omega
theorem mvL_nz {l : List Int} {p : Mv} (h : Best l p) : nz (mvL l p) + 1 ≤ nz l ∧ 2 ≤ nz l := by
  have hne := h.ne
  have h1 := nz_set (l := l) (at0 l p.f + p.a) h.f
  have hlen : p.t < (l.set p.f (at0 l p.f + p.a)).length := by simpa using h.t
  have h2 := nz_set (l := l.set p.f (at0 l p.f + p.a)) (at0 (l.set p.f (at0 l p.f + p.a)) p.t - p.a) hlen
  have e : at0 (l.set p.f (at0 l p.f + p.a)) p.t = at0 l p.t := by rw [at0_set _ h.f, if_neg (fun e => hne e.symm)]
  change nz (mvL l p) + _ = _ at h2
  rw [e] at h2
  have h3 := h.neg
  have h4 := h.pos
  have h5 := h.a
  have h6 : 1 ≤ nz (l.set p.f 0) := nz_pos (i := p.t) (by rw [at0_set _ h.f, if_neg (fun e => hne e.symm)]; omega)
  have h7 := nz_set (l := l) 0 h.f
  rw [if_neg (by omega), if_pos rfl] at h7
  rw [if_neg (by omega)] at h1 h2
  by_cases c : at0 l p.f + p.a = 0
  · rw [if_pos c] at h1
    by_cases c2 : at0 l p.t - p.a = 0
    · rw [if_pos c2] at h2; omega
    · rw [if_neg c2] at h2; omega
  · rw [if_neg c] at h1
    rw [if_pos (by omega)] at h2
    omega
/-- Payments under way: what they have brought balances to. -/
structure Run (b l : List Int) (ps : List Mv) (M : Int) : Prop where
  len : l.length = b.length
  sum : sumL l = 0
  eff : ∀ k, k < b.length → at0 l k = at0 b k + effL ps k
  few : ps.length + max (nz l) 1 ≤ b.length
  ok : ∀ p ∈ ps, p.f < b.length ∧ p.t < b.length ∧ p.f ≠ p.t ∧ 1 ≤ p.a ∧ p.a ≤ M
  bnd : ∀ k, k < b.length → -M ≤ at0 l k ∧ at0 l k ≤ M
theorem Run.start {b : List Int} {M : Int} (h : sumL b = 0) (hb : ∀ k, k < b.length → -M ≤ at0 b k ∧ at0 b k ≤ M) (hn : 1 ≤ b.length) : Run b b [] M :=
  ⟨rfl, h, fun k _ => by simp [effL], by have := nz_le b; simp; omega, fun p hp => by simp at hp, hb⟩
theorem Run.step {b l : List Int} {ps : List Mv} {M : Int} (h : Run b l ps M) {p : Mv} (hp : Best l p) : Run b (mvL l p) (ps ++ [p]) M := by
  have hf := hp.f
  have ht := hp.t
  have hb1 := h.bnd p.f (by rw [← h.len]; exact hf)
  have hb2 := h.bnd p.t (by rw [← h.len]; exact ht)
  have h1 := hp.neg
  have h2 := hp.pos
  have h3 := hp.a
  have hne := hp.ne
  have hs := (mvL_sum hf ht).trans h.sum
  obtain ⟨n1, n2⟩ := mvL_nz hp
  have n3 := nz_one hs
  have hfew := h.few
  refine ⟨(mvL_len l p).trans h.len, hs, fun k hk => ?_, ?_, ?_, fun k hk => ?_⟩
  · rw [mvL_at hf ht, h.eff k hk, effL_append]; simp [effL]; omega
  · rw [List.length_append]; simp only [List.length_cons, List.length_nil]; omega
  · intro q hq
    rw [List.mem_append] at hq
    rcases hq with hq | hq
    · exact h.ok q hq
    · simp at hq; subst hq
      exact ⟨by rw [← h.len]; exact hf, by rw [← h.len]; exact ht, hne, by omega, by omega⟩
  · rw [mvL_at hf ht]
    have := h.bnd k hk
    unfold eff1
    by_cases e1 : k = p.f
    · subst e1; rw [if_pos rfl, if_neg hne]; omega
    · rw [if_neg e1]
      by_cases e2 : k = p.t
      · subst e2; rw [if_pos rfl]; omega
      · rw [if_neg e2]; omega
theorem nonneg_zero : ∀ {l : List Int}, sumL l = 0 → (∀ k, k < l.length → 0 ≤ at0 l k) → ∀ k, at0 l k = 0
  | [], _, _, _ => rfl
  | x :: l, h, hp, k => by
    have h0 := hp 0 (by simp)
    have hl : ∀ m : List Int, (∀ k, k < m.length → 0 ≤ at0 m k) → 0 ≤ sumL m := by
      intro m
      induction m with
      | nil => intro _; simp [sumL]
      | cons y m ih =>
        intro hm
        have a := hm 0 (by simp)
        have c := ih (fun k hk => hm (k + 1) (by simpa using hk))
        rw [at0_zero] at a; simp only [sumL]; omega
    have h1 : ∀ k, k < l.length → 0 ≤ at0 l k := fun k hk => hp (k + 1) (by simpa using hk)
    have h2 := hl l h1
    simp only [sumL] at h
    rw [at0_zero] at h0
    cases k with
    | zero => rw [at0_zero]; omega
    | succ k => rw [at0_succ]; exact nonneg_zero (by omega) h1 k
theorem nonpos_zero {l : List Int} (h : sumL l = 0) (hp : ∀ k, k < l.length → at0 l k ≤ 0) (k : Nat) : at0 l k = 0 := by
  have hs : ∀ m : List Int, sumL (m.map fun x => -x) = - sumL m := by
    intro m
    induction m with
    | nil => simp [sumL]
    | cons y m ih => simp only [List.map_cons, sumL, ih]; omega
  have ha : ∀ (m : List Int) (k : Nat), at0 (m.map fun x => -x) k = - at0 m k := fun m k => by
    simp only [at0, List.getD_eq_getElem?_getD, List.getElem?_map]
    cases m[k]? <;> simp
  have := nonneg_zero (l := l.map fun x => -x) (by rw [hs, h]; rfl) (fun k hk => by rw [ha]; have := hp k (by simpa using hk); omega) k
  rw [ha] at this; omega
/-- An entry of a ledger. -/
structure En where
  f : Int
  t : Int
  a : Int
  r : ByteArray
def bal1 (e : En) (k : Nat) : Int := (if (k : Int) = e.t then e.a else 0) - (if (k : Int) = e.f then e.a else 0)
def balF : List En → Nat → Int
  | [], _ => 0
  | e :: l, k => bal1 e k + balF l k
theorem balF_append (l m : List En) (k : Nat) : balF (l ++ m) k = balF l k + balF m k := by
  induction l with
  | nil => simp [balF]
  | cons x l ih => simp only [List.cons_append, balF, ih]; omega
def okEn (n : Int) (e : En) : Bool := decide (1 ≤ n) && decide (n ≤ 100) && (decide (0 ≤ e.f) && decide (e.f ≤ n - 1)) && (decide (0 ≤ e.t) && decide (e.t ≤ n - 1)) && !(e.f == e.t) && (decide (1 ≤ e.a) && decide (e.a ≤ 1000000000)) && decide (e.r.size ≤ 60)
theorem okEn_iff {n : Int} {e : En} : okEn n e = true ↔ (1 ≤ n ∧ n ≤ 100) ∧ (0 ≤ e.f ∧ e.f ≤ n - 1) ∧ (0 ≤ e.t ∧ e.t ≤ n - 1) ∧ e.f ≠ e.t ∧ (1 ≤ e.a ∧ e.a ≤ 1000000000) ∧ e.r.size ≤ 60 := by
  simp [okEn, and_assoc]
theorem balF_bnd {n : Int} {l : List En} (h : ∀ e ∈ l, okEn n e = true) (k : Nat) : -(1000000000 * (l.length : Int)) ≤ balF l k ∧ balF l k ≤ 1000000000 * (l.length : Int) := by
  induction l with
  | nil => simp [balF]
  | cons e l ih =>
    have h1 := okEn_iff.1 (h e (by simp))
    have h2 := ih (fun e he => h e (by simp [he]))
    simp only [balF, bal1, List.length_cons]
    split <;> split <;> omega
/-- The balances of the accounts. -/
def balL (n : Nat) (l : List En) : List Int := (List.range n).map (balF l)
theorem balL_at {n : Nat} (l : List En) {k : Nat} (h : k < n) : at0 (balL n l) k = balF l k := at0_get (by simp [balL, h])
theorem balL_len (n : Nat) (l : List En) : (balL n l).length = n := by simp [balL]
theorem sumL_map_add (f g : Nat → Int) (l : List Nat) : sumL (l.map fun k => f k + g k) = sumL (l.map f) + sumL (l.map g) := by
  induction l with
  | nil => simp [sumL]
  | cons x l ih => simp only [List.map_cons, sumL, ih]; omega
theorem sum_one (n t : Nat) (a : Int) (h : t < n) : sumL ((List.range n).map fun k => if k = t then a else 0) = a := by
  induction n with
  | zero => omega
  | succ n ih =>
    rw [List.range_succ, List.map_append, sumL_append]
    simp only [List.map_cons, List.map_nil, sumL]
    by_cases e : t = n
    · subst e
      have : (List.range t).map (fun k => if k = t then a else 0) = (List.range t).map (fun _ => (0 : Int)) := List.map_congr_left fun k hk => by
        rw [if_neg]; have := List.mem_range.1 hk; omega
      rw [this]
      have hz : ∀ l : List Nat, sumL (l.map fun _ => (0 : Int)) = 0 := fun l => by
        induction l with
        | nil => rfl
        | cons x l ih => simp only [List.map_cons, sumL, ih]; rfl
      rw [hz]; simp
    · rw [ih (by omega), if_neg (fun h => e h.symm)]; simp
theorem sumL_neg (f : Nat → Int) (l : List Nat) : sumL (l.map fun k => - f k) = - sumL (l.map f) := by
  induction l with
  | nil => simp [sumL]
  | cons x l ih => simp only [List.map_cons, sumL, ih]; omega
theorem bal1_sum {n : Nat} {e : En} (h : okEn (n : Int) e = true) : sumL ((List.range n).map (bal1 e)) = 0 := by
  obtain ⟨_, ⟨h1, h2⟩, ⟨h3, h4⟩, _⟩ := okEn_iff.1 h
  obtain ⟨f, hf⟩ : ∃ f : Nat, e.f = (f : Int) := ⟨e.f.toNat, by omega⟩
  obtain ⟨t, ht⟩ : ∃ t : Nat, e.t = (t : Int) := ⟨e.t.toNat, by omega⟩
  have e1 : bal1 e = fun k => (if k = t then e.a else 0) + -(if k = f then e.a else 0) := by
    funext k
    unfold bal1
    rw [hf, ht]
    by_cases c1 : k = t <;> by_cases c2 : k = f <;> simp [c1, c2] <;> omega
  rw [e1, sumL_map_add, sumL_neg, sum_one n t e.a (by omega), sum_one n f e.a (by omega)]; omega
theorem balL_sum {n : Nat} {l : List En} (h : ∀ e ∈ l, okEn (n : Int) e = true) : sumL (balL n l) = 0 := by
  induction l with
  | nil =>
    have hz : ∀ l : List Nat, sumL (l.map fun _ => (0 : Int)) = 0 := fun l => by
      induction l with
      | nil => rfl
      | cons x l ih => simp only [List.map_cons, sumL, ih]; rfl
    exact hz _
  | cons e l ih =>
    have : balL n (e :: l) = (List.range n).map fun k => bal1 e k + balF l k := rfl
    rw [this, sumL_map_add, bal1_sum (h e (by simp))]
    have := ih (fun e he => h e (by simp [he]))
    unfold balL at this; omega
theorem sumL_nonneg {l : List Int} (h : ∀ x ∈ l, 0 ≤ x) : 0 ≤ sumL l := by
  induction l with
  | nil => simp [sumL]
  | cons y m ih => have h1 := h y (by simp); have h2 := ih (fun x hx => h x (by simp [hx])); simp only [sumL]; omega
theorem sumL_mul (l : List Int) (f g : Int → Int) (c : Int) (h : ∀ x ∈ l, f x = g x * c) : sumL (l.map f) = sumL (l.map g) * c := by
  induction l with
  | nil => simp [sumL]
  | cons y m ih =>
    have h2 := ih (fun x hx => h x (by simp [hx]))
    simp only [List.map_cons, sumL, h2, h y (by simp), Int.add_mul]
/-- An amount divided by shares: each share's part rounded down, and what is left of it. -/
def baseF (amount total s : Int) : Int := amount * s / total
def leftF (amount total s : Int) : Int := amount * s % total
def baseL (amount : Int) (by' : List Int) : List Int := by'.map (baseF amount (sumL by'))
def leftN (amount : Int) (by' : List Int) : Int := amount - sumL (baseL amount by')
/-- One more for each of some places. -/
def bump (l : List Int) (is : List Nat) : List Int := is.foldl (fun l i => l.set i (at0 l i + 1)) l
theorem bump_len (is : List Nat) : ∀ l : List Int, (bump l is).length = l.length := by
  induction is with
  | nil => intro l; rfl
  | cons i is ih => intro l; show (bump (l.set i _) is).length = _; rw [ih]; simp
theorem bump_sum (is : List Nat) : ∀ l : List Int, (∀ i ∈ is, i < l.length) → sumL (bump l is) = sumL l + is.length := by
  induction is with
  | nil => intro l _; simp [bump]
  | cons i is ih =>
    intro l h
    have hi := h i (by simp)
    show sumL (bump (l.set i (at0 l i + 1)) is) = _
    rw [ih _ (fun j hj => by simp; exact h j (by simp [hj])), sumL_set _ hi]
    simp; omega
theorem bump_same (is : List Nat) : ∀ (l : List Int) (k : Nat), (∀ i ∈ is, i < l.length) → k ∉ is → at0 (bump l is) k = at0 l k := by
  induction is with
  | nil => intro l k _ _; rfl
  | cons i is ih =>
    intro l k h hk
    simp at hk
    show at0 (bump (l.set i (at0 l i + 1)) is) k = _
    rw [ih _ k (fun j hj => by simp; exact h j (by simp [hj])) hk.2, at0_set _ (h i (by simp)), if_neg hk.1]
theorem bump_ge (is : List Nat) : ∀ (l : List Int) (k : Nat), (∀ i ∈ is, i < l.length) → at0 l k ≤ at0 (bump l is) k := by
  induction is with
  | nil => intro l k _; exact Int.le_refl _
  | cons i is ih =>
    intro l k h
    show _ ≤ at0 (bump (l.set i (at0 l i + 1)) is) k
    refine Int.le_trans ?_ (ih (l.set i (at0 l i + 1)) k (fun j hj => by simp; exact h j (by simp [hj])))
    rw [at0_set _ (h i (by simp))]
    split
    · rename_i e; subst e; omega
    · omega
/-- What is left of all parts is less than the number of shares with a remainder. -/
theorem left_few {amount total : Int} (ht : 0 < total) (l : List Int) : sumL (l.map (leftF amount total)) ≤ total * (nz (l.map (leftF amount total)) : Int) - (nz (l.map (leftF amount total)) : Int) ∧ 0 ≤ sumL (l.map (leftF amount total)) := by
  induction l with
  | nil => simp [sumL, nz]
  | cons s l ih =>
    have h1 : 0 ≤ leftF amount total s := Int.emod_nonneg _ (by omega)
    have h2 : leftF amount total s < total := Int.emod_lt_of_pos _ ht
    simp only [List.map_cons, sumL, nz]
    generalize leftF amount total s = x at *
    generalize nz (l.map (leftF amount total)) = n at *
    generalize sumL (l.map (leftF amount total)) = y at *
    by_cases e : x = 0
    · rw [if_pos e]; simp only [Nat.zero_add]; omega
    · rw [if_neg e]
      have : total * ((1 + n : Nat) : Int) = total + total * (n : Int) := by rw [Int.natCast_add, Int.mul_add]; simp
      rw [this]; omega
theorem left_eq {amount : Int} {by' : List Int} (ht : 0 < sumL by') : sumL (by'.map (leftF amount (sumL by'))) = leftN amount by' * sumL by' := by
  have h : ∀ (t : Int) (l : List Int), sumL (l.map (leftF amount t)) = amount * sumL l - t * sumL (l.map (baseF amount t)) := by
    intro t l
    induction l with
    | nil => simp [sumL]
    | cons s l ih =>
      simp only [List.map_cons, sumL, ih]
      have h1 : leftF amount t s = amount * s - t * baseF amount t s := by
        unfold leftF baseF; have := Int.mul_ediv_add_emod (amount * s) t; omega
      rw [h1, Int.mul_add, Int.mul_add]; omega
  rw [h]
  unfold leftN baseL
  rw [Int.sub_mul, Int.mul_comm (sumL by') (sumL _)]
theorem left_bnd {amount : Int} {by' : List Int} (ht : 0 < sumL by') : 0 ≤ leftN amount by' ∧ (leftN amount by' = 0 ∨ leftN amount by' < (nz (by'.map (leftF amount (sumL by'))) : Int)) := by
  have h1 := left_eq (amount := amount) ht
  obtain ⟨h2, h3⟩ := left_few (amount := amount) ht by'
  generalize nz (by'.map (leftF amount (sumL by'))) = n at *
  generalize sumL (by'.map (leftF amount (sumL by'))) = y at *
  generalize sumL by' = t at *
  generalize leftN amount by' = x at *
  have hx : 0 ≤ x := by
    refine Classical.byContradiction fun h => ?_
    have : x * t < 0 := Int.mul_neg_of_neg_of_pos (by omega) ht
    omega
  refine ⟨hx, ?_⟩
  by_cases hn : n = 0
  · left
    subst hn
    have h4 : x * t ≤ 0 := by simp at h2; omega
    rcases Int.lt_or_eq_of_le hx with h | h
    · have := Int.mul_pos h ht; omega
    · exact h.symm
  · right
    have h4 : x * t < t * (n : Int) := by omega
    rw [Int.mul_comm] at h4
    exact Int.lt_of_mul_lt_mul_left h4 (Int.le_of_lt ht)
/-- A list of places with their remainders, the greatest first: the first ones have some. -/
theorem first_pos {rs : List (Nat × Int)} (hs : rs.Pairwise fun a b => b.2 ≤ a.2) (hnn : ∀ r ∈ rs, 0 ≤ r.2) {m : Nat} (hm : m ≤ nz (rs.map (·.2))) : ∀ r ∈ rs.take m, r.2 ≠ 0 := by
  induction rs generalizing m with
  | nil => intro r hr; simp at hr
  | cons x rs ih =>
    intro r hr
    cases m with
    | zero => simp at hr
    | succ m =>
      rw [List.take_succ_cons, List.mem_cons] at hr
      obtain ⟨h1, h2⟩ := List.pairwise_cons.1 hs
      have hx : x.2 ≠ 0 := by
        intro e
        have h0 : ∀ y ∈ rs.map (·.2), y = 0 := fun y hy => by
          obtain ⟨z, hz, rfl⟩ := List.mem_map.1 hy
          have a := h1 z hz
          have c := hnn z (by simp [hz])
          omega
        have h3 : ∀ l : List Int, (∀ y ∈ l, y = 0) → nz l = 0 := fun l hl => by
          induction l with
          | nil => rfl
          | cons y l ih => simp only [nz]; rw [if_pos (hl y (by simp)), ih (fun z hz => hl z (by simp [hz]))]
        have h4 := h3 _ h0
        simp only [List.map_cons, nz, if_pos e, h4] at hm
        omega
      rcases hr with rfl | hr
      · exact hx
      · refine ih h2 (fun r hr => hnn r (by simp [hr])) ?_ r hr
        simp only [List.map_cons, nz, if_neg hx] at hm
        omega
theorem nz_perm {l m : List Int} (h : l.Perm m) : nz l = nz m := by
  induction h with
  | nil => rfl
  | cons x _ ih => simp only [nz, ih]
  | swap x y l => simp only [nz]; omega
  | trans _ _ h1 h2 => exact h1.trans h2
/-- The remainders with their places. -/
def remL (amount : Int) (by' : List Int) : List (Nat × Int) := (List.range by'.length).map fun i => (i, leftF amount (sumL by') (at0 by' i))
theorem map_at0 (l : List Int) (f : Int → Int) : (List.range l.length).map (fun i => f (at0 l i)) = l.map f := by
  refine List.ext_getElem? fun i => ?_
  simp only [List.getElem?_map]
  by_cases h : i < l.length
  · rw [List.getElem?_range h, get_at0 h]; rfl
  · rw [List.getElem?_eq_none (by simp; omega), List.getElem?_eq_none (by omega)]; rfl
theorem remL_snd (amount : Int) (by' : List Int) : (remL amount by').map (·.2) = by'.map (leftF amount (sumL by')) := by
  unfold remL
  rw [List.map_map]
  exact map_at0 by' (leftF amount (sumL by'))
/-- What Split answers: the parts are the amount, none is negative, and a share of 0 has none. -/
structure Parts (amount : Int) (by' parts : List Int) : Prop where
  len : parts.length = by'.length
  nn : ∀ k, 0 ≤ at0 parts k
  sum : sumL parts = amount
  zero : ∀ k, k < by'.length → at0 by' k = 0 → at0 parts k = 0
theorem parts_of {amount : Int} {by' : List Int} {rs : List (Nat × Int)} (ha : 0 ≤ amount) (hb : ∀ x ∈ by', 0 ≤ x) (ht : 0 < sumL by') (hp : rs.Perm (remL amount by')) (hs : rs.Pairwise fun a b => b.2 ≤ a.2) :
    (leftN amount by').toNat ≤ rs.length ∧ Parts amount by' (bump (baseL amount by') ((rs.take (leftN amount by').toNat).map (·.1))) := by
  obtain ⟨h0, h1⟩ := left_bnd (amount := amount) ht
  have hnz : nz (rs.map (·.2)) = nz (by'.map (leftF amount (sumL by'))) := by
    rw [← remL_snd]; exact nz_perm (hp.map _)
  have hrl : rs.length = by'.length := by rw [hp.length_eq]; simp [remL]
  have hmem : ∀ r ∈ rs, r.1 < by'.length ∧ r.2 = leftF amount (sumL by') (at0 by' r.1) := fun r hr => by
    have := hp.mem_iff.1 hr
    simp only [remL, List.mem_map, List.mem_range] at this
    obtain ⟨i, hi, rfl⟩ := this
    exact ⟨hi, rfl⟩
  have hle : (leftN amount by').toNat ≤ nz (rs.map (·.2)) := by rw [hnz]; omega
  have hle2 : (leftN amount by').toNat ≤ rs.length := by have := nz_le (rs.map (·.2)); rw [List.length_map] at this; omega
  have hpos := first_pos hs (fun r hr => by rw [(hmem r hr).2]; exact Int.emod_nonneg _ (by omega)) hle
  have hidx : ∀ i ∈ (rs.take (leftN amount by').toNat).map (·.1), i < (baseL amount by').length := fun i hi => by
    obtain ⟨r, hr, rfl⟩ := List.mem_map.1 hi
    have := (hmem r (List.mem_of_mem_take hr)).1
    simpa [baseL] using this
  have hbase : ∀ k, 0 ≤ at0 (baseL amount by') k := fun k => by
    by_cases hk : k < by'.length
    · have : (baseL amount by')[k]? = some (baseF amount (sumL by') (at0 by' k)) := by
        unfold baseL; rw [List.getElem?_map, get_at0 hk]; rfl
      rw [at0_get this]
      exact Int.ediv_nonneg (Int.mul_nonneg ha (hb _ (List.mem_of_getElem? (get_at0 hk)))) (Int.le_of_lt ht)
    · rw [at0_out (by simp [baseL]; omega)]; exact Int.le_refl _
  refine ⟨hle2, by rw [bump_len]; simp [baseL], fun k => Int.le_trans (hbase k) (bump_ge _ _ _ hidx), ?_, fun k hk hz => ?_⟩
  · rw [bump_sum _ _ hidx, List.length_map, List.length_take, Nat.min_eq_left hle2]
    unfold leftN at h0 ⊢; omega
  · rw [bump_same _ _ _ hidx]
    · have : (baseL amount by')[k]? = some (baseF amount (sumL by') (at0 by' k)) := by
        unfold baseL; rw [List.getElem?_map, get_at0 hk]; rfl
      rw [at0_get this, hz]; simp [baseF]
    · intro hk2
      obtain ⟨r, hr, rfl⟩ := List.mem_map.1 hk2
      refine hpos r hr ?_
      rw [(hmem r (List.mem_of_mem_take hr)).2, hz]; simp [leftF]
/-- What Net answers. -/
structure NetIs (b : List Int) (t : List Mv) (M : Int) : Prop where
  few : t.length + 1 ≤ b.length
  ok : ∀ p ∈ t, p.f < b.length ∧ p.t < b.length ∧ p.f ≠ p.t ∧ 1 ≤ p.a ∧ p.a ≤ M
  zero : ∀ k, k < b.length → at0 b k + effL t k = 0
theorem Run.ends {b l : List Int} {ps : List Mv} {M : Int} (h : Run b l ps M) (h0 : ∀ k, at0 l k = 0) : NetIs b ps M :=
  ⟨by have := h.few; omega, h.ok, fun k hk => by rw [← h.eff k hk, h0 k]⟩
def payE (r : ByteArray) (p : Mv) : En := ⟨(p.t : Int), (p.f : Int), p.a, r⟩
def setE (r : ByteArray) (p : Mv) : En := ⟨(p.f : Int), (p.t : Int), p.a, r⟩
theorem balF_pay (r : ByteArray) (t : List Mv) (k : Nat) : balF (t.map (payE r)) k = effL t k := by
  induction t with
  | nil => rfl
  | cons p t ih => simp only [List.map_cons, balF, effL, ih, bal1, eff1, payE, Int.natCast_inj]
theorem balF_set (r : ByteArray) (t : List Mv) (k : Nat) : balF (t.map (setE r)) k = - effL t k := by
  induction t with
  | nil => rfl
  | cons p t ih => simp only [List.map_cons, balF, effL, ih, bal1, eff1, setE, Int.natCast_inj]; omega
theorem okEn_mv {n : Nat} {p : Mv} {r : ByteArray} {M : Int} (hn : n ≤ 100) (hM : M ≤ 1000000000) (hr : r.size ≤ 60) (h : p.f < n ∧ p.t < n ∧ p.f ≠ p.t ∧ 1 ≤ p.a ∧ p.a ≤ M) : okEn (n : Int) (payE r p) = true ∧ okEn (n : Int) (setE r p) = true := by
  obtain ⟨h1, h2, h3, h4, h5⟩ := h
  constructor
  · rw [okEn_iff]; simp only [payE]; refine ⟨?_, ?_, ?_, ?_, ?_, hr⟩ <;> omega
  · rw [okEn_iff]; simp only [setE]; refine ⟨?_, ?_, ?_, ?_, ?_, hr⟩ <;> omega
theorem zero_list : ∀ {l : List Int}, (∀ k, k < l.length → at0 l k = 0) → ∀ x ∈ l, x = 0
  | [], _, _, h => by simp at h
  | y :: l, h, x, hx => by
    rw [List.mem_cons] at hx
    rcases hx with rfl | hx
    · exact h 0 (by simp)
    · exact zero_list (fun k hk => h (k + 1) (by simpa using hk)) x hx
theorem balL_zero {n : Nat} {l m : List En} (h : ∀ k, k < n → balF l k + balF m k = 0) : ∀ x ∈ balL n (l ++ m), x = 0 := by
  refine zero_list fun k hk => ?_
  rw [balL_len] at hk
  rw [balL_at _ hk, balF_append]; exact h k hk
theorem at0_ext {l m : List Int} (h : l.length = m.length) (he : ∀ k, k < l.length → at0 l k = at0 m k) : l = m := by
  refine List.ext_getElem? fun i => ?_
  by_cases hi : i < l.length
  · rw [get_at0 hi, get_at0 (by omega), he i hi]
  · rw [List.getElem?_eq_none (by omega), List.getElem?_eq_none (by omega)]
theorem runL_len : ∀ (ps : List Mv) (l : List Int), (ps.foldl mvL l).length = l.length
  | [], _ => rfl
  | p :: ps, l => by rw [List.foldl_cons, runL_len ps, mvL_len]
theorem runL_at : ∀ (ps : List Mv) (l : List Int), (∀ p ∈ ps, p.f < l.length ∧ p.t < l.length) → ∀ k, at0 (ps.foldl mvL l) k = at0 l k + effL ps k
  | [], l, _, k => by simp [effL]
  | p :: ps, l, h, k => by
    have hp := h p (by simp)
    rw [List.foldl_cons, runL_at ps (mvL l p) (fun q hq => by rw [mvL_len]; exact h q (by simp [hq])) k, mvL_at hp.1 hp.2]
    simp only [effL]; omega
/-- After the payments of netting, nothing is left. -/
theorem runL_zero {b : List Int} {t : List Mv} {M : Int} (h : NetIs b t M) : ∀ x ∈ t.foldl mvL b, x = 0 := by
  refine zero_list fun k hk => ?_
  rw [runL_len] at hk
  rw [runL_at t b (fun p hp => ⟨(h.ok p hp).1, (h.ok p hp).2.1⟩)]
  exact h.zero k hk
/-- The first place before which, by a test on the values, no other one is. -/
def firstB (lt : Int → Int → Bool) (l : List Int) : Nat → Nat
  | 0 => 0
  | i + 1 => if lt (at0 l i) (at0 l (firstB lt l i)) then i else firstB lt l i
theorem firstB_lt (lt : Int → Int → Bool) (l : List Int) (n : Nat) : ∀ i, i ≤ n → 0 < n → firstB lt l i < n
  | 0, _, h => h
  | i + 1, h, h0 => by
    simp only [firstB]
    split
    · omega
    · exact firstB_lt lt l n i (by omega) h0
theorem first_least (l : List Int) : ∀ i k, k < i → at0 l (firstB (fun a b => decide (a < b)) l i) ≤ at0 l k
  | 0, k, h => by omega
  | i + 1, k, h => by
    simp only [firstB]
    by_cases c : at0 l i < at0 l (firstB (fun a b => decide (a < b)) l i)
    · rw [if_pos (by simpa using c)]
      by_cases e : k = i
      · rw [e]; exact Int.le_refl _
      · have := first_least l i k (by omega); omega
    · rw [if_neg (by simpa using c)]
      by_cases e : k = i
      · rw [e]; omega
      · exact first_least l i k (by omega)
theorem first_most (l : List Int) : ∀ i k, k < i → at0 l k ≤ at0 l (firstB (fun a b => decide (b < a)) l i)
  | 0, k, h => by omega
  | i + 1, k, h => by
    simp only [firstB]
    by_cases c : at0 l (firstB (fun a b => decide (b < a)) l i) < at0 l i
    · rw [if_pos (by simpa using c)]
      by_cases e : k = i
      · rw [e]; exact Int.le_refl _
      · have := first_most l i k (by omega); omega
    · rw [if_neg (by simpa using c)]
      by_cases e : k = i
      · rw [e]; omega
      · exact first_most l i k (by omega)
def leastI (l : List Int) : Nat := firstB (fun a b => decide (a < b)) l l.length
def mostI (l : List Int) : Nat := firstB (fun a b => decide (b < a)) l l.length
def netP (l : List Int) : Mv := ⟨leastI l, mostI l, min (- at0 l (leastI l)) (at0 l (mostI l))⟩
theorem net_end {l : List Int} (h1 : at0 l (leastI l) = 0) (h2 : at0 l (mostI l) = 0) (k : Nat) : at0 l k = 0 := by
  by_cases hk : k < l.length
  · have a := first_least l l.length k hk
    have c := first_most l l.length k hk
    change at0 l (leastI l) ≤ _ at a
    change _ ≤ at0 l (mostI l) at c
    omega
  · exact at0_out (by omega)
theorem net_best {l : List Int} (hs : sumL l = 0) (hn : 0 < l.length) (h : ¬ (at0 l (leastI l) = 0 ∧ at0 l (mostI l) = 0)) : Best l (netP l) := by
  have hf : leastI l < l.length := firstB_lt _ l l.length l.length (Nat.le_refl _) hn
  have ht : mostI l < l.length := firstB_lt _ l l.length l.length (Nat.le_refl _) hn
  have h1 : at0 l (leastI l) < 0 := by
    refine Classical.byContradiction fun hc => h ?_
    have hz := nonneg_zero hs (fun k hk => by have := first_least l l.length k hk; change at0 l (leastI l) ≤ _ at this; omega)
    exact ⟨hz _, hz _⟩
  have h2 : 0 < at0 l (mostI l) := by
    refine Classical.byContradiction fun hc => h ?_
    have hz := nonpos_zero hs (fun k hk => by have := first_most l l.length k hk; change _ ≤ at0 l (mostI l) at this; omega)
    exact ⟨hz _, hz _⟩
  exact ⟨hf, ht, h1, h2, rfl⟩
/-- Net, with so many payments at most. -/
def netF : Nat → List Int → List Mv
  | 0, _ => []
  | f + 1, l => if at0 l (leastI l) = 0 ∧ at0 l (mostI l) = 0 then [] else netP l :: netF f (mvL l (netP l))
end Go.Proofs.Ythkmpegpmpdhaaa
