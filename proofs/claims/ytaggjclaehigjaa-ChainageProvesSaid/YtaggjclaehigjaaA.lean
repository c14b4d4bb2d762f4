/- Plain words of chainage: works, their first error, spells, lengths, contradictions. -/
namespace Go.Proofs.Ytaggjclaehigjaa
/-- five numbers: a chain (ID, Year, Made.Lo, Made.Hi, Wear); a proof or a repair (ID, Chain, Year, Lo, Hi); a measure (Chain, Year, Chains, Links, Slack) -/
structure Five where
  a : Int
  b : Int
  c : Int
  d : Int
  e : Int
instance : DecidableEq Five := fun x y => decidable_of_iff (x.a = y.a ∧ x.b = y.b ∧ x.c = y.c ∧ x.d = y.d ∧ x.e = y.e) (by cases x; cases y; simp)
instance : Inhabited Five := ⟨⟨0, 0, 0, 0, 0⟩⟩
/-- a thing: its number, its year, its span -/
structure Four where
  i : Int
  y : Int
  lo : Int
  hi : Int
instance : DecidableEq Four := fun x y => decidable_of_iff (x.i = y.i ∧ x.y = y.y ∧ x.lo = y.lo ∧ x.hi = y.hi) (by cases x; cases y; simp)
instance : Inhabited Four := ⟨⟨0, 0, 0, 0⟩⟩
def inB (n lo hi : Int) : Bool := decide (lo ≤ n) && decide (n ≤ hi)
def spB (x y lo hi : Int) : Bool := decide (lo ≤ x) && decide (x ≤ y) && decide (y ≤ hi)
theorem inB_iff {n lo hi : Int} : inB n lo hi = true ↔ lo ≤ n ∧ n ≤ hi := by simp [inB]
theorem spB_iff {x y lo hi : Int} : spB x y lo hi = true ↔ lo ≤ x ∧ x ≤ y ∧ y ≤ hi := by simp [spB, and_assoc]
def okC (c : Five) : Bool := inB c.a 1 1099511627776 && inB c.b 0 4000 && spB c.c c.d 9000 12000 && inB c.e 0 1000
def findC (C : List Five) (id : Int) : Option Five := C.find? (fun c => c.a == id)
/-- the first number of f 0, f 1 .. f (n - 1) that is not 0; 0 if there is none -/
def scan (f : Nat → Int) : Nat → Int
  | 0 => 0
  | n + 1 => if scan f n = 0 then f n else scan f n
theorem scan_hit {f : Nat → Int} {k n : Nat} (h : scan f k = 0) (hf : f k ≠ 0) (hk : k < n) : scan f n = f k := by
  induction n with
  | zero => omega
  | succ n ih =>
    by_cases e : k = n
    · subst e; simp [scan, h]
    · have := ih (by omega)
      simp only [scan, this, if_neg hf]
theorem scan_zero {f : Nat → Int} {n : Nat} : scan f n = 0 ↔ ∀ k, k < n → f k = 0 := by
  induction n with
  | zero => simp [scan]
  | succ n ih =>
    simp only [scan]
    constructor
    · intro h k hk
      split at h
      · rename_i h0
        by_cases e : k = n
        · subst e; exact h
        · exact ih.1 h0 k (by omega)
      · rename_i h0; exact absurd h h0
    · intro h
      rw [if_pos (ih.2 (fun k hk => h k (by omega)))]
      exact h n (by omega)
theorem scan_congr {f g : Nat → Int} {n : Nat} (h : ∀ k, k < n → f k = g k) : scan f n = scan g n := by
  induction n with
  | zero => rfl
  | succ n ih => simp only [scan, ih (fun k hk => h k (by omega)), h n (by omega)]
def orE (a b : Int) : Int := if a = 0 then b else a
theorem scan_add (f : Nat → Int) (m n : Nat) : scan f (m + n) = orE (scan f m) (scan (fun k => f (m + k)) n) := by
  induction n with
  | zero => simp [scan, orE]
  | succ n ih =>
    rw [← Nat.add_assoc]
    simp only [scan, ih]
    unfold orE
    by_cases h : scan f m = 0
    · simp [h]
    · simp [h]
def errC (C : List Five) (k : Nat) : Int :=
  if okC (C.getD k default) then (if (C.take k).any (fun x => x.a == (C.getD k default).a) then 6 else 0) else 1
def okT (C : List Five) (t : Five) (first : Int) : Bool :=
  match findC C t.b with
  | none => false
  | some c => inB t.a 1 1099511627776 && inB t.c (c.b + first) 4000 && spB t.d t.e 9000 12000
def errP (C P : List Five) (k : Nat) : Int :=
  if okT C (P.getD k default) 0 then (if (P.take k).any (fun x => x.a == (P.getD k default).a) then 6 else 0) else 1
def againB (R : List Five) (k : Nat) : Bool := (R.take k).any (fun x => x.b == (R.getD k default).b && x.c == (R.getD k default).c)
def errR (C P R : List Five) (k : Nat) : Int :=
  if okT C (R.getD k default) 1 then (if (P ++ R.take k).any (fun x => x.a == (R.getD k default).a) || againB R k then 6 else 0) else 1
/-- the first error of works -/
def chk (C P R : List Five) : Int :=
  if 20 < C.length ∨ 60 < P.length + R.length then 2
  else orE (scan (errC C) C.length) (orE (scan (errP C P) P.length) (scan (errR C P R) R.length))
/-- right works -/
structure Good (C P R : List Five) : Prop where
  few : C.length ≤ 20 ∧ P.length + R.length ≤ 60
  okc : ∀ c ∈ C, okC c = true
  twc : C.Pairwise (fun x y => x.a ≠ y.a)
  okp : ∀ p ∈ P, okT C p 0 = true
  okr : ∀ r ∈ R, okT C r 1 = true
  twt : (P ++ R).Pairwise (fun x y => x.a ≠ y.a)
  twr : R.Pairwise (fun x y => x.b = y.b → x.c ≠ y.c)
theorem pairwise_take {α : Type} [Inhabited α] {r : α → α → Prop} {l : List α} : l.Pairwise r ↔ ∀ k, k < l.length → ∀ x ∈ l.take k, r x (l.getD k default) := by
  rw [List.pairwise_iff_getElem]
  constructor
  · intro h k hk x hx
    obtain ⟨i, hi, rfl⟩ := List.mem_iff_getElem.1 hx
    simp only [List.length_take] at hi
    rw [List.getElem_take]
    have := h i k (by omega) hk (by omega)
    simpa [List.getD, hk] using this
  · intro h i j hi hj hij
    have := h j hj l[i] (by rw [List.mem_iff_getElem]; exact ⟨i, by simp; omega, by simp⟩)
    simpa [List.getD, hj] using this
theorem orE_zero {a b : Int} : orE a b = 0 ↔ a = 0 ∧ b = 0 := by unfold orE; split <;> simp_all
theorem errC_zero {C : List Five} {k : Nat} : errC C k = 0 ↔ okC (C.getD k default) = true ∧ ∀ x ∈ C.take k, x.a ≠ (C.getD k default).a := by
  unfold errC
  cases h : okC (C.getD k default)
  · simp
  · cases h2 : (C.take k).any (fun x => x.a == (C.getD k default).a)
    · simp only [List.any_eq_false, beq_iff_eq] at h2
      simpa using h2
    · simp only [List.any_eq_true, beq_iff_eq] at h2
      obtain ⟨x, hx, e⟩ := h2
      simp only [if_true]
      constructor
      · intro k; cases k
      · rintro ⟨_, k⟩; exact absurd e (k x hx)
theorem errP_zero {C P : List Five} {k : Nat} : errP C P k = 0 ↔ okT C (P.getD k default) 0 = true ∧ ∀ x ∈ P.take k, x.a ≠ (P.getD k default).a := by
  unfold errP
  cases h : okT C (P.getD k default) 0
  · simp
  · cases h2 : (P.take k).any (fun x => x.a == (P.getD k default).a)
    · simp only [List.any_eq_false, beq_iff_eq] at h2
      simpa using h2
    · simp only [List.any_eq_true, beq_iff_eq] at h2
      obtain ⟨x, hx, e⟩ := h2
      simp only [if_true]
      constructor
      · intro k; cases k
      · rintro ⟨_, k⟩; exact absurd e (k x hx)
theorem errR_zero {C P R : List Five} {k : Nat} : errR C P R k = 0 ↔ okT C (R.getD k default) 1 = true ∧ (∀ x ∈ P ++ R.take k, x.a ≠ (R.getD k default).a) ∧
    ∀ x ∈ R.take k, x.b = (R.getD k default).b → x.c ≠ (R.getD k default).c := by
  unfold errR againB
  cases h : okT C (R.getD k default) 1
  · simp
  · cases h2 : (P ++ R.take k).any (fun x => x.a == (R.getD k default).a)
    · cases h3 : (R.take k).any (fun x => x.b == (R.getD k default).b && x.c == (R.getD k default).c)
      · simp only [List.any_eq_false, beq_iff_eq, Bool.and_eq_true] at h2 h3
        simp only [Bool.or_self, Bool.false_eq_true, if_false, if_true, true_and, true_iff]
        exact ⟨h2, fun x hx e1 e2 => h3 x hx ⟨e1, e2⟩⟩
      · simp only [List.any_eq_true, beq_iff_eq, Bool.and_eq_true] at h3
        obtain ⟨x, hx, e1, e2⟩ := h3
        simp only [Bool.or_true, if_true]
        constructor
        · intro k; cases k
        · rintro ⟨_, _, k⟩; exact absurd e2 (k x hx e1)
    · simp only [List.any_eq_true, beq_iff_eq] at h2
      obtain ⟨x, hx, e⟩ := h2
      simp only [Bool.true_or, if_true]
      constructor
      · intro k; cases k
      · rintro ⟨_, k, _⟩; exact absurd e (k x hx)
theorem all_getD {α : Type} [Inhabited α] {l : List α} {p : α → Prop} : (∀ x ∈ l, p x) ↔ ∀ k, k < l.length → p (l.getD k default) := by
  constructor
  · intro h k hk
    have : l.getD k default = l[k] := by simp [List.getD, hk]
    rw [this]; exact h _ (List.getElem_mem hk)
  · intro h x hx
    obtain ⟨i, hi, rfl⟩ := List.mem_iff_getElem.1 hx
    have := h i hi
    simpa [List.getD, hi] using this
theorem chk_zero {C P R : List Five} : chk C P R = 0 ↔ Good C P R := by
  unfold chk
  by_cases hf : 20 < C.length ∨ 60 < P.length + R.length
  · rw [if_pos hf]
    constructor
    · intro h; cases h
    · intro h; have := h.few; omega
  · rw [if_neg hf, orE_zero, orE_zero, scan_zero, scan_zero, scan_zero]
    constructor
    · rintro ⟨h1, h2, h3⟩
      refine ⟨by omega, all_getD.2 fun k hk => (errC_zero.1 (h1 k hk)).1, pairwise_take.2 fun k hk => (errC_zero.1 (h1 k hk)).2, all_getD.2 fun k hk => (errP_zero.1 (h2 k hk)).1,
        all_getD.2 fun k hk => (errR_zero.1 (h3 k hk)).1, ?_, pairwise_take.2 fun k hk => (errR_zero.1 (h3 k hk)).2.2⟩
      rw [List.pairwise_append]
      refine ⟨pairwise_take.2 fun k hk => (errP_zero.1 (h2 k hk)).2, pairwise_take.2 fun k hk x hx => (errR_zero.1 (h3 k hk)).2.1 x (List.mem_append_right _ hx), fun x hx y hy => ?_⟩
      have : ∀ y ∈ R, x.a ≠ y.a := all_getD.2 fun k hk => (errR_zero.1 (h3 k hk)).2.1 x (List.mem_append_left _ hx)
      exact this y hy
    · intro g
      have hw := List.pairwise_append.1 g.twt
      refine ⟨fun k hk => errC_zero.2 ⟨all_getD.1 g.okc k hk, pairwise_take.1 g.twc k hk⟩, fun k hk => errP_zero.2 ⟨all_getD.1 g.okp k hk, pairwise_take.1 hw.1 k hk⟩, fun k hk => errR_zero.2 ⟨all_getD.1 g.okr k hk, ?_, pairwise_take.1 g.twr k hk⟩⟩
      intro x hx
      rcases List.mem_append.1 hx with hx | hx
      · exact (all_getD (p := fun y => x.a ≠ y.a)).1 (fun y hy => hw.2.2 x hx y hy) k hk
      · exact pairwise_take.1 hw.2.1 k hk x hx
end Go.Proofs.Ytaggjclaehigjaa
