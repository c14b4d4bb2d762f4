/- The frame of a claim: the arguments read as data, read again behind the call; what a law's statement asks of a call that returns true. The frame of a claim: further arguments: measures, numbers, spans, a proof, lengths. -/
import Derived.Test.YtaggjclaehigjaaRows
import Derived.Test.YtaggjclaehigjaaU
import Derived.ProofKit
import Derived.OpenShut
import Derived.ReadAgain
import Derived.ChangeSame
import Derived.Carry
import Derived.SizedLaws
import Derived.Deep.Slices
import Derived.Deep.Fields
import Derived.Deep.Strs
namespace Go.Proofs.Ytaggjclaehigjaa
open Go.ChangeShapes Go.WideShapes Go.ChangeAt Go.RowKit Go.Deep
set_option maxRecDepth 100000
theorem own : ownKnob Try.prog.godebug = none := by kernel_rfl
theorem kids : Kids Try.prog (· < Try.prog.types.size) := kids_rows (by kernel_rfl) (by kernel_rfl)
theorem full : ∀ t e, t < Try.prog.types.size → Try.prog.underlying t = some (.slice e) → 0 < Try.prog.cellsOf e := slices_full_of Try.prog (by kernel_rfl)
/-! closed facts of the program, asked once -/
theorem laid0 : laidOutB Try.pinned.checked.prog = true := by kernel_rfl
theorem maps0 : mapsRowed Try.pinned.checked.prog = true := by kernel_rfl
theorem heard0 : Try.pinned.checked.prog.stopsHeard = true := by kernel_rfl
theorem enter0 : Try.pinned.checked.prog.mayEnter = true := by kernel_rfl
section
variable {H : Type} {enc : TypeId × Value → H}
theorem trod_later {P : Program} {W W' : World} {base : Nat} {sp : Nat → Bool} {held : Bool} {t : TypeId} {v : Value} {d : DataW H} {ps : List MemPlace} (h : DataW.Trod enc P W base sp held t v d ps) (hb : Below W.heap.size W W') : DataW.Trod enc P W' base sp held t v d ps := by
  obtain ⟨n, hn⟩ := h
  exact ⟨n, DataW.trod_carry n t _ _ hn (fun p hp => hb.same (DataW.trod_lt n t _ _ hn p hp))⟩
theorem trodAll_later {P : Program} {W W' : World} {base : Nat} {sp : Nat → Bool} {held : Bool} (hb : Below W.heap.size W W') : ∀ {ts : List TypeId} {vs : List Value} {ds : List (DataW H)} {ps : List MemPlace}, DataW.TrodAll enc P W base sp held ts vs ds ps → DataW.TrodAll enc P W' base sp held ts vs ds ps
  | [], [], [], _, h => h
  | _ :: _, _ :: _, _ :: _, _, ⟨p, q, h1, h2, e⟩ => ⟨p, q, trod_later h1 hb, trodAll_later hb h2, e⟩
set_option maxRecDepth 100000 in
theorem law_post {f : Func} {s : ChangeSpec} {apart fresh handsOn again : Bool} {W W' : World} {args : Array Value} {ds : List (DataW H)} {before : List MemPlace}
    (hW : DataW.Whole enc Try.prog f.params.toList s.vars apart W args.toList ds [] before) (hb : Below W.heap.size W W') (hvars : s.vars = []) (hs : s.fn H (ds ++ []) = { results := [.lit (.bool true)], args := ds })
    (hT : (f.params.toList.all fun t => decide (t < Try.prog.types.size)) = true) (hr : f.resultTypes = #[4]) : s.post enc Try.prog f apart fresh handsOn again W args (.bool true) W' := by
  have hlt : ∀ p ∈ before, p.block < W.heap.size := fun p hp => hW.lt p hp
  have hold : ∀ p ∈ before, (fun b => decide (b < W.heap.size)) p.block = true := fun p hp => by simpa using hlt p hp
  have hW0 := hW
  obtain ⟨p, q, hA, hV, hpq, hz, hn⟩ := hW0
  rw [hvars] at hV
  obtain ⟨_, rfl⟩ := trodVars_none hV
  rw [List.append_nil] at hpq
  subst hpq
  have hargs : ∀ sp : Nat → Bool, (∀ p ∈ before, sp p.block = true) → DataW.TrodAll enc Try.prog W' 0 sp true f.params.toList args.toList ds before := fun sp hsp =>
    DataW.TrodAll.respare kids full (fun t ht => by simpa using List.all_eq_true.1 hT t ht) (trodAll_later hb hA) hsp
  have hres : ∀ (b : Nat) (sp : Nat → Bool) (hd : Bool), DataW.TrodAll enc Try.prog W' b sp hd f.resultTypes.toList ((Value.bool true).resultList f.resultTypes.size) [.lit (.bool true)] [] := fun b sp hd => by
    rw [hr]
    exact trodAll_mk1 (shut_bool Try.underlying4 _)
  have hvar : ∀ sp : Nat → Bool, DataW.TrodVars enc Try.prog W' sp s.vars [] [] := fun sp => by rw [hvars]; rfl
  refine ⟨ds, [], before, [], before, [], hW, by rw [hs]; exact hres _ _ _, by rw [hs]; exact hargs _ hold, by rw [hs]; exact hvar _, World.keptBut_mono (fun p hp => ⟨hp, ?_⟩) (hb.frame (· ∈ before)), fun _ => ?_⟩
  · exact Or.inr (by simpa using hp)
  · refine ⟨?_, _, _, ([] ++ before) ++ [], ⟨[] ++ before, [], trodAll_append (hargs _ (fun _ _ => rfl)) (hres _ _ _), hvar _, rfl, ?_, ?_⟩, ?_⟩
    · exact ok_one hr rfl (okWide_bool_mk Try.underlying4 _)
    · intro b off hp
      have hin : MemPlace.cell b off ∈ before := by simpa using hp
      rw [hb.frozen (hlt _ hin)]
      exact hz b off hin
    · intro ha
      simpa using hn ha
    · intro p hp _
      simpa using hp
end
/-! the arguments' values -/
def i64 (n : Int) : Prop := -9223372036854775808 ≤ n ∧ n ≤ 9223372036854775807
section
variable {P : Program} {W : World} {r : Reach} {base : Nat} {v : Value} {t : TypeId}
theorem cell_int {k : IntKind} (ht : P.underlying t = some (.int k)) (h : Cell.okWide P W r base t v) : ∃ n, v = .int k n ∧ k.min ≤ n ∧ n ≤ k.max := by
  unfold Cell.okWide Cell.ok at h
  rw [ht] at h
  cases v <;> first | exact h.elim | skip
  rename_i k' n
  obtain ⟨rfl, h1, h2⟩ := h
  exact ⟨n, rfl, h1, h2⟩
theorem open_int' {k : IntKind} (ht : P.underlying t = some (.int k)) (h : Value.okWide P W r base t v) : ∃ n, v = .int k n ∧ k.min ≤ n ∧ n ≤ k.max := by
  unfold Value.okWide at h
  rw [ht] at h
  exact cell_int ht h
theorem open_struct' {fs : Array Field} (ht : P.underlying t = some (.struct fs)) (h : Value.okWide P W r base t v) : ∃ cs, v = .agg cs ∧ cs.size = P.cellsOf t ∧ Row.okWide P W r base t cs := by
  unfold Value.okWide at h
  rw [ht] at h
  exact h
end
theorem open_i64 {W : World} {base : Nat} {v : Value} (h : Value.okWide Try.prog W .any base 3 v) : ∃ n, v = .int .i64 n ∧ i64 n := open_int' Try.underlying3 h
theorem open_u8 {W : World} {base : Nat} {v : Value} (h : Value.okWide Try.prog W .any base 5 v) : ∃ n, v = .int .u8 n ∧ 0 ≤ n ∧ n ≤ 255 := open_int' Try.underlying5 h
theorem cell_spot {w : World} {a : Addr} {v : Value} (h : w.cell? a = some v) : a.spot = none := by
  unfold World.cell? at h
  split at h
  · split at h
    · cases h
    · cases hs : a.spot with
      | none => rfl
      | some x => rename_i hn; rw [hs] at hn; simp at hn
  · cases h
theorem add_zero' (a : Addr) : a.add 0 = a := by simp [Addr.add]
theorem add_at (b o k : Nat) : (⟨b, o, none⟩ : Addr).add k = ⟨b, o + k, none⟩ := by
  unfold Addr.add
  split
  · rename_i h; subst h; rfl
  · rfl
def In5 (x : Five) : Prop := i64 x.a ∧ i64 x.b ∧ i64 x.c ∧ i64 x.d ∧ i64 x.e
section
variable {H : Type} {enc : TypeId × Value → H}
theorem trod_field {P : Program} {W : World} {base : Nat} {sp : Nat → Bool} {held : Bool} {n : Nat} {fs : Array Field} {t t' : TypeId} {cs : List Value} {x : DataW H × List MemPlace} {f : Field} {i o c : Nat} (ht : P.underlying t = some (.struct fs)) (h : DataW.trod enc P W base sp held n t cs = some x)
    (hf : fs[i]? = some f) (ho : f.offset = o) (hy : f.type = t') (hc : P.cellsOf t' = c) : ∃ m y, DataW.trod enc P W base sp held m t' ((cs.drop o).take c) = some y := by
  obtain ⟨xs, m, _, _, _, hl, hg⟩ := DataW.trod_struct ht h
  have g := hg i f hf
  rw [ho, hy, hc] at g
  cases hx : xs[i]? with
  | none =>
    have h1 := (Array.getElem?_eq_some_iff.1 hf).1
    have h2 := List.getElem?_eq_none_iff.1 hx
    omega
  | some y => exact ⟨m, y, by rw [g, hx]⟩
theorem trod_i64 {W : World} {base : Nat} {sp : Nat → Bool} {held : Bool} {n : Nat} {v : Value} {x : DataW H × List MemPlace} (h : DataW.trod enc Try.prog W base sp held n 3 [v] = some x) : ∃ a, v = .int .i64 a ∧ i64 a := by
  obtain ⟨a, e, _, hw⟩ := DataW.trod_int Try.underlying3 h
  simp at e
  refine ⟨a, e, ?_⟩
  simp only [Lit.wf, Bool.and_eq_true, decide_eq_true_eq] at hw
  exact hw
theorem five_list {cs : List Value} (h : cs.length = 5) : ∃ a b c d e, cs = [a, b, c, d, e] := by
  match cs, h with
  | [a, b, c, d, e], _ => exact ⟨a, b, c, d, e, rfl⟩
theorem c_int : Try.prog.cellsOf 3 = 1 := by kernel_rfl
theorem c_span : Try.prog.cellsOf 30 = 2 := by kernel_rfl
theorem c_chain : Try.prog.cellsOf 53 = 5 := by kernel_rfl
theorem c_proof : Try.prog.cellsOf 72 = 5 := by kernel_rfl
theorem c_repair : Try.prog.cellsOf 85 = 5 := by kernel_rfl
theorem c_measure : Try.prog.cellsOf 41 = 5 := by kernel_rfl
theorem c_works : Try.prog.cellsOf 26 = 3 := by kernel_rfl
theorem b_chain : Try.prog.bytesOf 53 = 40 := by kernel_rfl
theorem b_proof : Try.prog.bytesOf 72 = 40 := by kernel_rfl
theorem b_repair : Try.prog.bytesOf 85 = 40 := by kernel_rfl
theorem b_measure : Try.prog.bytesOf 41 = 40 := by kernel_rfl
theorem b_int : Try.prog.bytesOf 3 = 8 := by kernel_rfl
theorem trod_span {W : World} {base : Nat} {sp : Nat → Bool} {held : Bool} {n : Nat} {u v : Value} {x : DataW H × List MemPlace} (h : DataW.trod enc Try.prog W base sp held n 30 [u, v] = some x) : (∃ a, u = .int .i64 a ∧ i64 a) ∧ ∃ a, v = .int .i64 a ∧ i64 a := by
  obtain ⟨_, _, h0⟩ := trod_field Try.underlying30 h (i := 0) rfl rfl rfl c_int
  obtain ⟨_, _, h1⟩ := trod_field Try.underlying30 h (i := 1) rfl rfl rfl c_int
  exact ⟨trod_i64 h0, trod_i64 h1⟩
theorem mk_five {u v x y z : Value} (h0 : ∃ a, u = .int .i64 a ∧ i64 a) (h1 : ∃ a, v = .int .i64 a ∧ i64 a) (h2 : ∃ a, x = .int .i64 a ∧ i64 a) (h3 : ∃ a, y = .int .i64 a ∧ i64 a) (h4 : ∃ a, z = .int .i64 a ∧ i64 a) : ∃ f : Five, [u, v, x, y, z] = enc5 f ∧ In5 f := by
  obtain ⟨a, rfl, ha⟩ := h0
  obtain ⟨b, rfl, hb⟩ := h1
  obtain ⟨c, rfl, hc⟩ := h2
  obtain ⟨d, rfl, hd⟩ := h3
  obtain ⟨e, rfl, he⟩ := h4
  exact ⟨⟨a, b, c, d, e⟩, rfl, ha, hb, hc, hd, he⟩
/-- elements of type e are five numbers -/
def FiveT (e : TypeId) : Prop := ∀ {H : Type} {enc : TypeId × Value → H} {W : World} {base : Nat} {sp : Nat → Bool} {held : Bool} {n : Nat} {cs : List Value} {x : DataW H × List MemPlace}, cs.length = 5 → DataW.trod enc Try.prog W base sp held n e cs = some x → ∃ f : Five, cs = enc5 f ∧ In5 f
theorem five_chain : FiveT 53 := by
  intro H enc W base sp held n cs x hl h
  obtain ⟨a, b, c, d, e, rfl⟩ := five_list hl
  obtain ⟨_, _, h0⟩ := trod_field Try.underlying53 h (i := 0) rfl rfl rfl c_int
  obtain ⟨_, _, h1⟩ := trod_field Try.underlying53 h (i := 1) rfl rfl rfl c_int
  obtain ⟨_, _, h2⟩ := trod_field Try.underlying53 h (i := 2) rfl rfl rfl c_span
  obtain ⟨_, _, h3⟩ := trod_field Try.underlying53 h (i := 3) rfl rfl rfl c_int
  have h2' := trod_span h2
  exact mk_five (trod_i64 h0) (trod_i64 h1) h2'.1 h2'.2 (trod_i64 h3)
theorem five_Proof : FiveT 72 := by
  intro H enc W base sp held n cs x hl h
  obtain ⟨a, b, c, d, e, rfl⟩ := five_list hl
  obtain ⟨_, _, h0⟩ := trod_field Try.underlying72 h (i := 0) rfl rfl rfl c_int
  obtain ⟨_, _, h1⟩ := trod_field Try.underlying72 h (i := 1) rfl rfl rfl c_int
  obtain ⟨_, _, h2⟩ := trod_field Try.underlying72 h (i := 2) rfl rfl rfl c_int
  obtain ⟨_, _, h3⟩ := trod_field Try.underlying72 h (i := 3) rfl rfl rfl c_span
  have h3' := trod_span h3
  exact mk_five (trod_i64 h0) (trod_i64 h1) (trod_i64 h2) h3'.1 h3'.2
theorem five_Repair : FiveT 85 := by
  intro H enc W base sp held n cs x hl h
  obtain ⟨a, b, c, d, e, rfl⟩ := five_list hl
  obtain ⟨_, _, h0⟩ := trod_field Try.underlying85 h (i := 0) rfl rfl rfl c_int
  obtain ⟨_, _, h1⟩ := trod_field Try.underlying85 h (i := 1) rfl rfl rfl c_int
  obtain ⟨_, _, h2⟩ := trod_field Try.underlying85 h (i := 2) rfl rfl rfl c_int
  obtain ⟨_, _, h3⟩ := trod_field Try.underlying85 h (i := 3) rfl rfl rfl c_span
  have h3' := trod_span h3
  exact mk_five (trod_i64 h0) (trod_i64 h1) (trod_i64 h2) h3'.1 h3'.2
theorem five_measure : FiveT 41 := by
  intro H enc W base sp held n cs x hl h
  obtain ⟨a, b, c, d, e, rfl⟩ := five_list hl
  obtain ⟨_, _, h0⟩ := trod_field Try.underlying41 h (i := 0) rfl rfl rfl c_int
  obtain ⟨_, _, h1⟩ := trod_field Try.underlying41 h (i := 1) rfl rfl rfl c_int
  obtain ⟨_, _, h2⟩ := trod_field Try.underlying41 h (i := 2) rfl rfl rfl c_int
  obtain ⟨_, _, h3⟩ := trod_field Try.underlying41 h (i := 3) rfl rfl rfl c_int
  obtain ⟨_, _, h4⟩ := trod_field Try.underlying41 h (i := 4) rfl rfl rfl c_int
  exact mk_five (trod_i64 h0) (trod_i64 h1) (trod_i64 h2) (trod_i64 h3) (trod_i64 h4)
def fiveOf (w : World) (a : Addr) : Five :=
  let z : Nat → Int := fun j => match w.cell? (a.add j) with | some (.int _ n) => n | _ => 0
  ⟨z 0, z 1, z 2, z 3, z 4⟩
/-- a slice of fives that was read -/
theorem open_fives {W : World} {T e n : Nat} {v : Value} {x : DataW H × List MemPlace} (ht : Try.prog.underlying T = some (.slice e)) (ce : Try.prog.cellsOf e = 5) (be : Try.prog.bytesOf e = 40) (he : FiveT e)
    (h : DataW.trod enc Try.prog W 0 (fun _ => true) true n T [v] = some x) (hz : ∀ k ∈ x.1.weights Try.prog T, k ≤ reachBytes) : ∃ l, Fives W v l ∧ l.length * 40 ≤ reachBytes ∧ ∀ f ∈ l, In5 f := by
  rcases open_slice ht h with ⟨hcs, _⟩ | ⟨a, len, cap, m, n, D, Pl, hcs, _, hl, hm, hmm, hx, hi⟩
  · simp at hcs
    subst hcs
    exact ⟨[], Sl.nil _ _ _, by simp, by simp⟩
  · simp at hcs
    subst hcs
    simp only [if_true] at hmm
    subst hmm
    rw [ce] at hi
    have hlen : len * 40 ≤ reachBytes := by
      have := hz ((len + (m - len)) * 40) (by rw [hx]; simp [DataW.weights, ht, be])
      have e1 : len + (m - len) = m := by omega
      rw [e1] at this
      exact Nat.le_trans (Nat.mul_le_mul_right 40 hl) this
    have key : ∀ i, i < len → ∃ f : Five, In5 f ∧ ∀ j u, (enc5 f)[j]? = some u → W.cell? ((a.add (i * 5)).add j) = some u := by
      intro i hlt
      obtain ⟨cs', hc, ht'⟩ := hi i (by omega)
      obtain ⟨_, hcl, hat⟩ := World.cells?_some hc
      obtain ⟨f, rfl, hf⟩ := he hcl ht'
      refine ⟨f, hf, fun j u hu => ?_⟩
      have hj : j < 5 := (List.getElem?_eq_some_iff.1 hu).1
      rw [hat j hj]
      exact hu
    have hfo : ∀ i f, (∀ j u, (enc5 f)[j]? = some u → W.cell? ((a.add (i * 5)).add j) = some u) → fiveOf W (a.add (i * 5)) = f := by
      intro i f hf
      have e0 := hf 0 _ rfl
      have e1 := hf 1 _ rfl
      have e2 := hf 2 _ rfl
      have e3 := hf 3 _ rfl
      have e4 := hf 4 _ rfl
      simp only [fiveOf, e0, e1, e2, e3, e4]
    refine ⟨(List.range len).map fun i => fiveOf W (a.add (i * 5)), ⟨some a, m, by simp, by simpa using hl, hm, ?_⟩, by simpa using hlen, ?_⟩
    · by_cases h0 : len = 0
      · subst h0
        exact .inl rfl
      · have hs : a.spot = none := by
          obtain ⟨f, _, hf⟩ := key 0 (by omega)
          have := hf 0 _ rfl
          rw [Nat.zero_mul, add_zero', add_zero'] at this
          exact cell_spot this
        obtain ⟨b, o, s⟩ := a
        simp only at hs
        subst hs
        refine .inr ⟨b, o, rfl, fun i hlt j u hu => ?_⟩
        simp only [List.length_map, List.length_range] at hlt
        obtain ⟨f, _, hf⟩ := key i hlt
        simp only [List.getElem_map, List.getElem_range, hfo i f hf] at hu
        have := hf j u hu
        rw [add_at, add_at] at this
        exact this
    · intro f hf
      obtain ⟨i, hi', rfl⟩ := List.mem_map.1 hf
      obtain ⟨f', h5, hf'⟩ := key i (List.mem_range.1 hi')
      rw [hfo i f' hf']
      exact h5
theorem three_of {cs : Array Value} (h : cs.size = 3) : ∃ a b c, cs = #[a, b, c] := by
  obtain ⟨l⟩ := cs
  match l, h with
  | [a, b, c], _ => exact ⟨a, b, c, rfl⟩
/-- what an argument that is works gives -/
structure WkIn (W : World) (v : Value) (C P R : List Five) : Prop where
  wk : Wk W v C P R
  ic : ∀ x ∈ C, In5 x
  ip : ∀ x ∈ P, In5 x
  ir : ∀ x ∈ R, In5 x
theorem open_works {W : World} {base : Nat} {v : Value} {d : DataW H} {p : List MemPlace} (hv : Value.okWide Try.prog W .any base 26 v) (h : DataW.Trod enc Try.prog W 0 (fun _ => true) true 26 v d p)
    (hz : ∀ k ∈ d.weights Try.prog 26, k ≤ reachBytes) : ∃ C P R, WkIn W v C P R := by
  obtain ⟨cs, rfl, hs, _⟩ := open_struct' Try.underlying26 hv
  rw [c_works] at hs
  obtain ⟨a, b, c, rfl⟩ := three_of hs
  obtain ⟨fuel, hf⟩ := h
  obtain ⟨y0, y1, y2, n, hd, _, h0, h1, h2⟩ := trod_struct3 Try.underlying26 hf
  simp only [Prod.mk.injEq] at hd
  obtain ⟨rfl, _⟩ := hd
  have hw : ∀ k ∈ DataW.weightsEach Try.prog [22, 23, 24] [y0.1, y1.1, y2.1], k ≤ reachBytes := by
    intro k hk
    refine hz k ?_
    simp only [DataW.weights, Try.underlying26]
    exact hk
  simp only [DataW.weightsEach, List.append_nil, List.mem_append] at hw
  have e0 : ([a, b, c].drop 0).take (Try.prog.cellsOf 22) = [a] := by kernel_rfl
  have e1 : ([a, b, c].drop 1).take (Try.prog.cellsOf 23) = [b] := by kernel_rfl
  have e2 : ([a, b, c].drop 2).take (Try.prog.cellsOf 24) = [c] := by kernel_rfl
  have h0' : DataW.trod enc Try.prog W 0 (fun _ => true) true n 22 [a] = some y0 := by rw [← e0]; exact h0
  have h1' : DataW.trod enc Try.prog W 0 (fun _ => true) true n 23 [b] = some y1 := by rw [← e1]; exact h1
  have h2' : DataW.trod enc Try.prog W 0 (fun _ => true) true n 24 [c] = some y2 := by rw [← e2]; exact h2
  obtain ⟨C, hC, lC, iC⟩ := open_fives Try.underlying22 c_chain b_chain five_chain h0' (fun k hk => hw k (.inl hk))
  obtain ⟨P, hP, lP, iP⟩ := open_fives Try.underlying23 c_proof b_proof five_Proof h1' (fun k hk => hw k (.inr (.inl hk)))
  obtain ⟨R, hR, lR, iR⟩ := open_fives Try.underlying24 c_repair b_repair five_Repair h2' (fun k hk => hw k (.inr (.inr hk)))
  have := reachBytes_lt
  exact ⟨C, P, R, ⟨a, b, c, rfl, hC, hP, hR, by omega⟩, iC, iP, iR⟩
end
end Go.Proofs.Ytaggjclaehigjaa
namespace Go.Proofs.Ytaggjclaehigjaa
open Go.ChangeShapes Go.WideShapes Go.ChangeAt Go.RowKit Go.Deep
set_option maxRecDepth 100000
theorem c_wear : Try.prog.cellsOf 46 = 3 := by kernel_rfl
theorem c_ints : Try.prog.cellsOf 44 = 1 := by kernel_rfl
section
variable {H : Type} {enc : TypeId × Value → H}
theorem open_ms {W : World} {base : Nat} {v : Value} {d : DataW H} {p : List MemPlace} (hv : Value.okWide Try.prog W .any base 38 v) (h : DataW.Trod enc Try.prog W 0 (fun _ => true) true 38 v d p)
    (hz : ∀ k ∈ d.weights Try.prog 38, k ≤ reachBytes) : ∃ l, Fives W v l ∧ l.length * 40 ≤ reachBytes ∧ ∀ f ∈ l, In5 f := by
  obtain ⟨a0, len, cap, rfl⟩ := okWide_slice Try.underlying38 hv
  obtain ⟨fuel, hf⟩ := h
  exact open_fives Try.underlying38 c_measure b_measure five_measure hf hz
def intAt (w : World) (a : Addr) : Int := match w.cell? a with | some (.int _ n) => n | _ => 0
theorem open_ints' {W : World} {n : Nat} {v : Value} {x : DataW H × List MemPlace} (h : DataW.trod enc Try.prog W 0 (fun _ => true) true n 44 [v] = some x) (hz : ∀ k ∈ x.1.weights Try.prog 44, k ≤ reachBytes) :
    ∃ l, Ints W v l ∧ l.length * 8 ≤ reachBytes ∧ ∀ z ∈ l, i64 z := by
  rcases open_slice Try.underlying44 h with ⟨hcs, _⟩ | ⟨a, len, cap, m, n, D, Pl, hcs, _, hl, hm, hmm, hx, hi⟩
  · simp at hcs
    subst hcs
    exact ⟨[], Sl.nil _ _ _, by simp, by simp⟩
  · simp at hcs
    subst hcs
    simp only [if_true] at hmm
    subst hmm
    rw [c_int] at hi
    have hlen : len * 8 ≤ reachBytes := by
      have := hz ((len + (m - len)) * 8) (by rw [hx]; simp [DataW.weights, Try.underlying44, b_int])
      have e1 : len + (m - len) = m := by omega
      rw [e1] at this
      exact Nat.le_trans (Nat.mul_le_mul_right 8 hl) this
    have key : ∀ i, i < len → ∃ z : Int, i64 z ∧ W.cell? (a.add i) = some (.int .i64 z) := by
      intro i hlt
      obtain ⟨cs', hc, ht'⟩ := hi i (by omega)
      obtain ⟨_, hcl, hat⟩ := World.cells?_some hc
      match cs', hcl with
      | [u], _ =>
        obtain ⟨z, rfl, hz⟩ := trod_i64 ht'
        refine ⟨z, hz, ?_⟩
        have := hat 0 (by omega)
        rw [add_zero', Nat.mul_one] at this
        exact this
    refine ⟨(List.range len).map fun i => intAt W (a.add i), ⟨some a, m, by simp, by simpa using hl, hm, ?_⟩, by simpa using hlen, ?_⟩
    · by_cases h0 : len = 0
      · subst h0
        exact .inl rfl
      · have hs : a.spot = none := by
          obtain ⟨z, _, hf⟩ := key 0 (by omega)
          rw [add_zero'] at hf
          exact cell_spot hf
        obtain ⟨b, o, s⟩ := a
        simp only at hs
        subst hs
        refine .inr ⟨b, o, rfl, fun i hlt j u hu => ?_⟩
        simp only [List.length_map, List.length_range] at hlt
        obtain ⟨z, _, hf⟩ := key i hlt
        simp only [List.getElem_map, List.getElem_range, intAt, hf, enc1] at hu
        cases j with
        | zero =>
          simp at hu
          subst hu
          rw [add_at] at hf
          rw [Nat.mul_one, Nat.add_zero]
          exact hf
        | succ j => simp at hu
    · intro z hz
      obtain ⟨i, hi', rfl⟩ := List.mem_map.1 hz
      obtain ⟨z', h5, hf⟩ := key i (List.mem_range.1 hi')
      simp only [intAt, hf]
      exact h5
theorem open_ints {W : World} {base : Nat} {v : Value} {d : DataW H} {p : List MemPlace} (hv : Value.okWide Try.prog W .any base 44 v) (h : DataW.Trod enc Try.prog W 0 (fun _ => true) true 44 v d p)
    (hz : ∀ k ∈ d.weights Try.prog 44, k ≤ reachBytes) : ∃ l, Ints W v l ∧ l.length * 8 ≤ reachBytes ∧ ∀ z ∈ l, i64 z := by
  obtain ⟨a0, len, cap, rfl⟩ := okWide_slice Try.underlying44 hv
  obtain ⟨fuel, hf⟩ := h
  exact open_ints' hf hz
theorem two_of {cs : Array Value} (h : cs.size = 2) : ∃ a b, cs = #[a, b] := by
  obtain ⟨l⟩ := cs
  match l, h with
  | [a, b], _ => exact ⟨a, b, rfl⟩
theorem five_of {cs : Array Value} (h : cs.size = 5) : ∃ a b c d e, cs = #[a, b, c, d, e] := by
  obtain ⟨l⟩ := cs
  match l, h with
  | [a, b, c, d, e], _ => exact ⟨a, b, c, d, e, rfl⟩
theorem open_span {W : World} {base : Nat} {v : Value} {d : DataW H} {p : List MemPlace} (hv : Value.okWide Try.prog W .any base 30 v) (h : DataW.Trod enc Try.prog W 0 (fun _ => true) true 30 v d p) :
    ∃ x y, v = .agg #[.int .i64 x, .int .i64 y] ∧ i64 x ∧ i64 y := by
  obtain ⟨cs, rfl, hs, _⟩ := open_struct' Try.underlying30 hv
  rw [c_span] at hs
  obtain ⟨a, b, rfl⟩ := two_of hs
  obtain ⟨fuel, hf⟩ := h
  obtain ⟨⟨x, rfl, hx⟩, y, rfl, hy⟩ := trod_span hf
  exact ⟨x, y, rfl, hx, hy⟩
theorem open_measure {W : World} {base : Nat} {v : Value} {d : DataW H} {p : List MemPlace} (hv : Value.okWide Try.prog W .any base 41 v) (h : DataW.Trod enc Try.prog W 0 (fun _ => true) true 41 v d p) :
    ∃ x : Five, v = v5 x ∧ In5 x := by
  obtain ⟨cs, rfl, hs, _⟩ := open_struct' Try.underlying41 hv
  rw [c_measure] at hs
  obtain ⟨a, b, c, d, e, rfl⟩ := five_of hs
  obtain ⟨fuel, hf⟩ := h
  obtain ⟨f, hf, hi⟩ := five_measure rfl hf
  simp only [Value.cells, enc5] at hf
  simp at hf
  obtain ⟨rfl, rfl, rfl, rfl, rfl⟩ := hf
  exact ⟨f, rfl, hi⟩
theorem open_proof {W : World} {base : Nat} {v : Value} {d : DataW H} {p : List MemPlace} (hv : Value.okWide Try.prog W .any base 72 v) (h : DataW.Trod enc Try.prog W 0 (fun _ => true) true 72 v d p) :
    ∃ x : Five, v = v5 x ∧ In5 x := by
  obtain ⟨cs, rfl, hs, _⟩ := open_struct' Try.underlying72 hv
  rw [c_proof] at hs
  obtain ⟨a, b, c, d, e, rfl⟩ := five_of hs
  obtain ⟨fuel, hf⟩ := h
  obtain ⟨f, hf, hi⟩ := five_Proof rfl hf
  simp only [Value.cells, enc5] at hf
  simp at hf
  obtain ⟨rfl, rfl, rfl, rfl, rfl⟩ := hf
  exact ⟨f, rfl, hi⟩
theorem open_wear {W : World} {base : Nat} {v : Value} {d : DataW H} {p : List MemPlace} (hv : Value.okWide Try.prog W .any base 46 v) (h : DataW.Trod enc Try.prog W 0 (fun _ => true) true 46 v d p)
    (hz : ∀ k ∈ d.weights Try.prog 46, k ≤ reachBytes) : ∃ x y u l, v = .agg #[.int .i64 x, .int .i64 y, u] ∧ (i64 x ∧ i64 y) ∧ Ints W u l ∧ l.length * 8 ≤ reachBytes ∧ ∀ z ∈ l, i64 z := by
  obtain ⟨cs, rfl, hs, _⟩ := open_struct' Try.underlying46 hv
  rw [c_wear] at hs
  obtain ⟨a, b, c, rfl⟩ := three_of hs
  obtain ⟨fuel, hf⟩ := h
  obtain ⟨y0, y1, y2, n, hd, _, h0, h1, h2⟩ := trod_struct3 Try.underlying46 hf
  simp only [Prod.mk.injEq] at hd
  obtain ⟨rfl, _⟩ := hd
  have hw : ∀ k ∈ DataW.weightsEach Try.prog [3, 3, 44] [y0.1, y1.1, y2.1], k ≤ reachBytes := by
    intro k hk
    refine hz k ?_
    simp only [DataW.weights, Try.underlying46]
    exact hk
  simp only [DataW.weightsEach, List.append_nil, List.mem_append] at hw
  have e0 : ([a, b, c].drop 0).take (Try.prog.cellsOf 3) = [a] := by kernel_rfl
  have e1 : ([a, b, c].drop 1).take (Try.prog.cellsOf 3) = [b] := by kernel_rfl
  have e2 : ([a, b, c].drop 2).take (Try.prog.cellsOf 44) = [c] := by kernel_rfl
  have h0' : DataW.trod enc Try.prog W 0 (fun _ => true) true n 3 [a] = some y0 := by rw [← e0]; exact h0
  have h1' : DataW.trod enc Try.prog W 0 (fun _ => true) true n 3 [b] = some y1 := by rw [← e1]; exact h1
  have h2' : DataW.trod enc Try.prog W 0 (fun _ => true) true n 44 [c] = some y2 := by rw [← e2]; exact h2
  obtain ⟨x, rfl, hx⟩ := trod_i64 h0'
  obtain ⟨y, rfl, hy⟩ := trod_i64 h1'
  obtain ⟨l, hl, hb, hr⟩ := open_ints' h2' (fun k hk => hw k (.inr (.inr hk)))
  exact ⟨x, y, c, l, rfl, ⟨hx, hy⟩, hl, hb, hr⟩
end
end Go.Proofs.Ytaggjclaehigjaa
