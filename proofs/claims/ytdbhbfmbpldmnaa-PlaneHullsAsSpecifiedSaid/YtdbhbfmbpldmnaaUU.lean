/- Contracts of slices.SortFunc by byPlace, of slices.Reverse, at points. Contract of slices.Clone at points; appending a list of points. Contract of chain. Contract of slices.Compact at points. Contract of Hull. -/
import Derived.Test.YtdbhbfmbpldmnaaU1
import Derived.Test.YtdbhbfmbpldmnaaX5
import Derived.Test.YtdbhbfmbpldmnaaQQ
import Derived.Test.YtdbhbfmbpldmnaaX8
import Derived.Sort.WalkB2
import Derived.Sort.WalkB12
import Derived.Test.YtdbhbfmbpldmnaaC2
namespace Go.Proofs.Ytdbhbfmbpldmnaa
open Go.RowKit Go.Sort Go.Shelf
abbrev VP := {p : Int × Int // okp p = true}
instance : Inhabited VP := ⟨⟨(0, 0), rfl⟩⟩
def encP (x : VP) : List Value := [.int .i64 x.1.1, .int .i64 x.1.2]
def bpZ (p q : Int × Int) : Int := if p.1 = q.1 then p.2 - q.2 else p.1 - q.1
theorem bpZ_neg (p q : Int × Int) : bpZ p q < 0 ↔ ltP p q := by unfold bpZ ltP; split <;> omega
set_option maxHeartbeats 1000000 in
theorem byPlace_any (x y : VP) (W : World) : Calls Try.prog 106 #[.agg #[.int .i64 x.1.1, .int .i64 x.1.2], .agg #[.int .i64 y.1.1, .int .i64 y.1.2]] W fun e w' => e = .returned (.int .i64 (bpZ x.1 y.1)) ∧ ∃ q os', w' = grow (W.drewN q) os' := by
  obtain ⟨⟨a, b⟩, hx⟩ := x
  obtain ⟨⟨c, d⟩, hy⟩ := y
  simp only [okp, Bool.and_eq_true, okc_iff] at hx hy
  obtain ⟨⟨h1, h2⟩, h3, h4⟩ := hx
  obtain ⟨⟨k1, k2⟩, k3, k4⟩ := hy
  simp only [bpZ]
  by_cases e : a = c
  · rw [if_pos e]
    subst e
    go_enter Try.func106, Try.ntmps106
    go_wp2_with fail
    go_ret
    exact ⟨rfl, 0, _, by rw [alloc_eq_grow, alloc_eq_grow, grow_grow]; rfl⟩
  · rw [if_neg e]
    have e2 : (a != c) = true := by rw [bne_iff_ne]; exact e
    have e3 : (a == c) = false := by rw [beq_eq_false_iff_ne]; exact e
    go_enter Try.func106, Try.ntmps106
    go_wp2_with fail
    go_ret
    exact ⟨rfl, 0, _, by rw [alloc_eq_grow, alloc_eq_grow, grow_grow]; rfl⟩
theorem byPlace_swo : SWO (ltOf fun x y : VP => bpZ x.1 y.1) where
  irrefl x := decide_eq_false (fun h => ltP.irrefl _ ((bpZ_neg _ _).1 h))
  trans x y z a b := decide_eq_true ((bpZ_neg _ _).2 (((bpZ_neg _ _).1 (of_decide_eq_true a)).trans ((bpZ_neg _ _).1 (of_decide_eq_true b))))
  ntrans x y z a b := by
    have a := of_decide_eq_false a
    have b := of_decide_eq_false b
    refine decide_eq_false (fun c => ?_)
    rw [bpZ_neg] at a b c
    unfold ltP at *
    omega
/-- the row from off on holds the points l; all else is w0, or new -/
structure RPt (w0 : World) (blk off : Nat) (l : List (Int × Int)) (W : World) : Prop where
  kx : KX blk w0 W
  same : W.os = w0.os ∧ W.tape = w0.tape ∧ W.output = w0.output
  row : ∀ i, (h : i < l.length) → (W.cell? ⟨blk, off + i * 2, none⟩ = some (.int .i64 (l[i]).1) ∧ W.cell? ⟨blk, off + i * 2 + 1, none⟩ = some (.int .i64 (l[i]).2)) ∧ W.frozen? ⟨blk, off + i * 2, none⟩ = false ∧ W.frozen? ⟨blk, off + i * 2 + 1, none⟩ = false
theorem kx_put (w : World) (blk off m : Nat) (d : Array VP) (os : Array Obj) : KX blk w (sortWorldK encP 2 w blk off m d os) := by
  refine ⟨?_, fun b hb hne => ?_⟩
  · unfold sortWorldK
    rw [size_grow]
    show w.heap.size ≤ (putRow id (Sort.ahead w m) blk off (flatK encP 2 d)).heap.size + _
    rw [size_putRow]
    exact Nat.le_add_right _ _
  · unfold sortWorldK grow putRowK putRow mapBlock
    simp only [Array.getElem?_append]
    rw [if_pos (by simpa [Sort.ahead] using hb)]
    simp only [Array.getElem?_modify, Sort.ahead]
    rw [if_neg (fun e => hne e.symm)]
theorem rpt_put {w : World} {blk off m : Nat} {d0 d : Array VP} (os : Array Obj) (h : HoldsK encP 2 w blk off d0) (hs : d.size = d0.size) (hb : blk < w.heap.size) :
    RPt w blk off (d.toList.map (·.1)) (sortWorldK encP 2 w blk off m d os) := by
  refine ⟨kx_put _ _ _ _ _ _, ⟨rfl, rfl, rfl⟩, fun i hi => ?_⟩
  have hi' : i < d.size := by simpa using hi
  have hk : HoldsK encP 2 (sortWorldK encP 2 w blk off m d os) blk off d := by
    unfold sortWorldK
    refine holdsK_grow encP 2 _ os blk off d ?_ (holdsK_putRowK encP 2 _ blk off d0 d (holdsK_ahead encP 2 w m blk off d0 h) hs)
    show blk < (putRow id (Sort.ahead w m) blk off (flatK encP 2 d)).heap.size
    rw [size_putRow]
    exact hb
  have e0 := hk.cell hi' (show 0 < 2 by omega)
  have e1 := hk.cell hi' (show 1 < 2 by omega)
  have e : (d.toList.map (·.1))[i] = (d[i]!).1 := by
    rw [getElem!_pos d i hi']
    simp
  rw [e]
  exact ⟨⟨e0.1, e1.1⟩, e0.2, e1.2⟩
theorem holds_rpt {w0 w : World} {blk off : Nat} {l : List VP} (h : RPt w0 blk off (l.map (·.1)) w) : HoldsK encP 2 w blk off l.toArray := by
  intro j hj
  rw [size_flatK] at hj
  have hj2 : j / 2 < l.length := by simp at hj; omega
  have hr := h.row (j / 2) (by simpa using hj2)
  rw [get_flatK _ _ _ _ (by simpa using hj)]
  have e : (l.map (·.1))[j / 2]'(by simpa using hj2) = (l.toArray[j / 2]!).1 := by
    rw [getElem!_pos l.toArray (j / 2) (by simpa using hj2)]
    simp
  rw [e] at hr
  have hc : j % 2 = 0 ∨ j % 2 = 1 := by omega
  rcases hc with hc | hc
  · rw [show off + j = off + j / 2 * 2 from by omega, hc]
    exact ⟨hr.1.1, hr.2.1⟩
  · rw [show off + j = off + j / 2 * 2 + 1 from by omega, hc]
    exact ⟨hr.1.2, hr.2.2⟩
theorem RPt.lt {w0 w : World} {blk off : Nat} {l : List (Int × Int)} (h : RPt w0 blk off l w) (hne : l ≠ []) : blk < w.heap.size := by
  cases l with
  | nil => exact absurd rfl hne
  | cons p l => exact lt_of_cell (h.row 0 (by simp)).1.1
theorem RPt.re {w0 w : World} {blk off : Nat} {l : List (Int × Int)} (h : RPt w0 blk off l w) : RPt w blk off l w := ⟨KX.refl _ _, ⟨rfl, rfl, rfl⟩, h.row⟩
set_option maxHeartbeats 1000000 in
theorem sortPts_any (blk off cap : Nat) (l : List VP) (w0 w : World) (h : RPt w0 blk off (l.map (·.1)) w) (hne : l ≠ []) (hsz : l.length < 4611686018427387904) :
    Calls Try.prog 105 #[.slice (some ⟨blk, off, none⟩) l.length cap, .func (.func 106) #[] #[]] w fun e w' => e = .returned (.tuple #[]) ∧ ∃ r : List VP, RPt w blk off (r.map (·.1)) w' ∧ r.Perm l ∧ r.Pairwise (fun a b => ¬ ltP b.1 a.1) := by
  have eg : ∀ args w, (callFunc 106 args).run Try.prog w = .ok (.enter 106 args) w := enters_of Try.func106 (by kernel_rfl) rfl
  have hb := h.lt (by simpa using hne)
  have hcon := AnyQ.slices_SortFunc sortPts 2 Try.isAgg23 Try.sizeOf23 encP (fun _ => rfl) (fun x v hv => by simp [encP] at hv; rcases hv with rfl | rfl <;> rfl) (fun x y : VP => bpZ x.1 y.1) byPlace_swo 106 #[] blk off cap l.toArray w eg (fun _ _ _ _ x y => byPlace_any x y _) (holds_rpt h) hb (by simpa using hsz)
  refine hcon.mono ?_
  rintro e w' ⟨rfl, d', n, os, hp, hs, rfl⟩
  have hz : d'.size = l.toArray.size := hp.1
  refine ⟨rfl, d'.toList, rpt_put os (holds_rpt h) hz hb, ?_, ?_⟩
  · have h2 := hp.2.2
    have ex : ∀ a : Array VP, a.size = l.toArray.size → (a.extract 0 l.toArray.size).toList = a.toList := fun a ha => by
      rw [Array.toList_extract]
      simp at ha
      simp [List.take_of_length_le, ha]
    rw [ex _ hz, ex _ rfl] at h2
    simpa using h2
  · rw [List.pairwise_iff_getElem]
    intro i j hi hj hij
    have := hs i j (Nat.zero_le _) hij (by rw [← hz]; simpa using hj)
    rw [getElem!_pos d' i (by simpa using hi), getElem!_pos d' j (by simpa using hj)] at this
    have := of_decide_eq_false this
    rw [bpZ_neg] at this
    simpa using this
set_option maxHeartbeats 1000000 in
theorem revPts_any (blk off cap : Nat) (l : List VP) (w0 w : World) (h : RPt w0 blk off (l.map (·.1)) w) (hne : l ≠ []) (hsz : l.length ≤ 9223372036854775807) :
    Calls Try.prog 109 #[.slice (some ⟨blk, off, none⟩) l.length cap] w fun e w' => e = .returned (.tuple #[]) ∧ RPt w blk off (l.reverse.map (·.1)) w' := by
  have hb := h.lt (by simpa using hne)
  have hcon := AnyQ.slices_Reverse revPts 2 Try.isAgg23 Try.sizeOf23 encP (fun _ => rfl) (fun x v hv => by simp [encP] at hv; rcases hv with rfl | rfl <;> rfl) blk off cap l.toArray w (holds_rpt h) (by simpa using hsz)
  refine hcon.mono ?_
  rintro e w' ⟨rfl, n, rfl⟩
  have := rpt_put (m := n) (d := l.toArray.reverse) #[] (holds_rpt h) (by simp) hb
  unfold sortWorldK at this
  rw [grow_empty] at this
  refine ⟨rfl, ?_⟩
  simpa using this
end Go.Proofs.Ytdbhbfmbpldmnaa
namespace Go.Proofs.Ytdbhbfmbpldmnaa
open Go.RowKit Go.Sort
theorem run_eql_nil (b off n cap : Nat) (w : World) : (binOp .eql 39 (.slice (some ⟨b, off, none⟩) n cap) (.slice none 0 0)).run Try.prog w = .ok (.bool false) w := by kernel_rfl
theorem flat_append (l m : List (Int × Int)) : flat (l ++ m) = flat l ++ flat m := by
  induction l with
  | nil => rfl
  | cons p l ih => simp [flat, ih]
theorem flat_cells {w : World} {b off : Nat} {l : List (Int × Int)} (h : ∀ i, (h : i < l.length) → w.cell? ⟨b, off + i * 2, none⟩ = some (.int .i64 (l[i]).1) ∧ w.cell? ⟨b, off + i * 2 + 1, none⟩ = some (.int .i64 (l[i]).2)) (j : Nat) (u : Value) (hu : (flat l)[j]? = some u) : w.cell? ⟨b, off + j, none⟩ = some u := by
  have hj : j < (flat l).length := (List.getElem?_eq_some_iff.1 hu).1
  rw [flat_length] at hj
  have hi : j / 2 < l.length := by omega
  have f := flat_at l (j / 2) hi
  have c := h (j / 2) hi
  have hc : j % 2 = 0 ∨ j % 2 = 1 := by omega
  rcases hc with hc | hc
  · rw [show j / 2 * 2 = j from by omega] at f c
    rw [f.1] at hu
    rw [c.1, ← hu]
  · rw [show j / 2 * 2 + 1 = j from by omega] at f
    rw [show off + j / 2 * 2 + 1 = off + j from by omega] at c
    rw [f.2] at hu
    rw [c.2, ← hu]
theorem flat_one (l : List (Int × Int)) : ∀ u ∈ flat l, u.oneCell' = true := by
  induction l with
  | nil => intro u h; cases h
  | cons p l ih =>
    intro u h
    simp only [flat, List.mem_cons] at h
    rcases h with rfl | rfl | h
    · rfl
    · rfl
    · exact ih u h
/-- append of a list of points to a slice of the call's own -/
theorem app_pts {ops : Array Oper} {rest : List Oper} {o : Oper} {a : Act} {w : World} {Q : Exit → Act → World → Prop} (hgd : o.guard = none) (s x : Operand)
    (ho : o.op = .call { callee := .builtin .append, args := #[s, x], argTypes := #[39, 39] }) (base : Nat) (v : Value) (l m : List (Int × Int)) (hs : a.eval s = v) (hown : Own base w v l)
    (b off c : Nat) (hx : a.eval x = .slice (some ⟨b, off, none⟩) m.length c) (hm : ∀ i, (h : i < m.length) → w.cell? ⟨b, off + i * 2, none⟩ = some (.int .i64 (m[i]).1) ∧ w.cell? ⟨b, off + i * 2 + 1, none⟩ = some (.int .i64 (m[i]).2))
    (hlen : l.length + m.length ≤ 8000000000000) {W0 : World} (hE0 : Ext W0 w) (hbase0 : base ≤ W0.heap.size)
    (h : ∀ v' w', Own base w' v' (l ++ m) → (∀ W : World, W.heap.size ≤ base → Ext W w → Ext W w') → wpList Try.prog ops Q rest (a.put o.dst v') w') : wpList Try.prog ops Q (o :: rest) a w := by
  have hbase : base ≤ w.heap.size := Nat.le_trans hbase0 hE0.size
  obtain ⟨i0, hi, hz0, hz1, hz2⟩ := info_parts info23
  refine wpList_append_own _ hgd s x 39 ho base 23 i0 _ 2 16 Try.underlying39 hi hz0 hz1 hz2 rfl (by decide) v l.length (flat l) hs hown ⟨b, off, none⟩ m.length c (flat m) hx (flat_length m) ?_ (flat_one m) ?_ ?_ hbase ?_
  · intro j u hj
    have := flat_cells hm j u hj
    unfold Addr.add
    split
    · rename_i h0
      subst h0
      exact this
    · exact this
  · simp only [maxLen]; omega
  · omega
  · intro v' w' ho' hg _
    refine h v' w' ?_ ?_
    · unfold Own
      rw [flat_append]
      simpa using ho'
    · intro W hW hE
      refine Below.grown hE hg hE.size ?_
      intro k hk
      have := (World.ownsRow.lt hown k hk).1
      omega
theorem Own.rpt {base : Nat} {w : World} {v : Value} {l : List (Int × Int)} (h : Own base w v l) (hne : l ≠ []) : ∃ g cap, v = .slice (some ⟨g, 0, none⟩) l.length cap ∧ l.length ≤ cap ∧ cap ≤ maxLen ∧ base ≤ g ∧ RPt w g 0 l w := by
  obtain ⟨h1, h2⟩ := id h
  rcases h2 with ⟨hv, hn⟩ | ⟨g, cap, cur, hv, hb, hg, hle, hm, hsz, htk⟩
  · exact absurd (List.length_eq_zero_iff.1 hn) hne
  · refine ⟨g, cap, hv, hle, hm, hb, KX.refl _ _, ⟨rfl, rfl, rfl⟩, fun i hi => ?_⟩
    have hp := h.pts
    obtain ⟨a', cap', hv', _, _, hh⟩ := hp
    rw [hv] at hv'
    simp only [Value.slice.injEq] at hv'
    obtain ⟨b, off, e, hc⟩ := hh.resolve_left hne
    rw [← hv'.1] at e
    simp only [Option.some.injEq, Addr.mk.injEq] at e
    obtain ⟨e1, e2, _⟩ := e
    subst e1
    subst e2
    refine ⟨hc i hi, ?_, ?_⟩ <;> (unfold World.frozen?; simp [hg])
theorem own_empty (w : World) (base : Nat) (hb : base ≤ w.heap.size) : Own base (w.alloc (.cells #[] 23)) (.slice (some ⟨w.heap.size, 0, none⟩) 0 0) [] := by
  refine ⟨rfl, Or.inr ⟨w.heap.size, 0, #[], rfl, hb, World.alloc_heap_new w _, Nat.le_refl _, by simp [maxLen], rfl, rfl⟩⟩
set_option maxRecDepth 100000 in
set_option maxHeartbeats 1000000 in
theorem clone_any (W : World) (b off cap : Nat) (l : List (Int × Int)) (w : World) (hX : Ext W w) (hv : Pts w (.slice (some ⟨b, off, none⟩) l.length cap) l) (hne : l ≠ []) (hlen : l.length ≤ 8000000000000) :
    Calls Try.prog 104 #[.slice (some ⟨b, off, none⟩) l.length cap] w fun e w' => ∃ g cap', e = .returned (.slice (some ⟨g, 0, none⟩) l.length cap') ∧ l.length ≤ cap' ∧ cap' ≤ maxLen ∧ w.heap.size ≤ g ∧ Own w.heap.size w' (.slice (some ⟨g, 0, none⟩) l.length cap') l ∧ RPt w' g 0 l w' ∧ Ext W w' ∧ Ext w w' := by
  have hnil := run_eql_nil b off l.length cap
  obtain ⟨a', c', hv', _, _, hh⟩ := id hv
  simp only [Value.slice.injEq] at hv'
  obtain ⟨b', off', e, hc⟩ := hh.resolve_left hne
  rw [← hv'.1] at e
  simp only [Option.some.injEq, Addr.mk.injEq] at e
  obtain ⟨e1, e2, _⟩ := e
  subst e1
  subst e2
  have hc2 := Lib.hid hc
  clear hc hh hv' hv
  go_enter Try.func104, Try.ntmps104
  go_wp2_with (at_builtin; refine app_pts rfl (.tmp 5) (.tmp 6) rfl w.heap.size _ [] l rfl (own_empty w _ (Nat.le_refl _)) b off cap rfl (fun i hi => ⟨((Ext.refl w).alloc _).cell (hc2.out i hi).1, ((Ext.refl w).alloc _).cell (hc2.out i hi).2⟩) (by simpa using hlen) ((Ext.refl w).alloc _) (Nat.le_refl _) ?_)
  intro v' w1 ho hext
  go_wp2_with fail
  obtain ⟨g, cap', e1, e2, e3, e4, e5⟩ := Own.rpt (by simpa using ho) hne
  subst e1
  go_ret
  exact ⟨g, cap', rfl, e2, e3, e4, by simpa using ho, e5, hX.trans (hext w (Nat.le_refl _) ((Ext.refl w).alloc _)), hext w (Nat.le_refl _) ((Ext.refl w).alloc _)⟩
end Go.Proofs.Ytdbhbfmbpldmnaa
namespace Go.Proofs.Ytdbhbfmbpldmnaa
open Go.RowKit Go.Sort
theorem Own.pop {base : Nat} {w : World} {a : Option Addr} {n cap : Nat} {l : List (Int × Int)} {p : Int × Int} (h : Own base w (.slice a n cap) (l ++ [p])) : Own base w (.slice a l.length cap) l := by
  obtain ⟨h1, h2⟩ := h
  refine ⟨by rw [flat_length], ?_⟩
  rcases h2 with ⟨hv, hn⟩ | ⟨g, cap', cur, hv, hb, hg, hle, hm, hsz, htk⟩
  · simp at hn
  · simp only [Value.slice.injEq] at hv
    obtain ⟨e1, e2, e3⟩ := hv
    subst e1 e3
    refine Or.inr ⟨g, cap, cur, rfl, hb, hg, by simp at hle; omega, hm, hsz, ?_⟩
    have : flat l = (flat (l ++ [p])).take (l.length * 2) := by rw [flat_append, List.take_left' (by rw [flat_length])]
    rw [this, ← htk, List.take_take]
    congr 1
    simp
def slLen : Value → Nat
  | .slice _ n _ => n
  | _ => 0
theorem Own.len {base : Nat} {w : World} {v : Value} {l : List (Int × Int)} (h : Own base w v l) : slLen v = l.length := by
  obtain ⟨a, cap, hv, _⟩ := h.pts
  rw [hv]; rfl
theorem pop_sub (p : Int × Int) : ∀ st, ∀ x ∈ popF st p, x ∈ st
  | [], x, h => h
  | [_], x, h => h
  | b :: a :: r, x, h => by
    rw [popF] at h
    split at h
    · exact List.mem_cons_of_mem _ (pop_sub p (a :: r) x h)
    · exact h
theorem stk_snoc (l : List (Int × Int)) (p : Int × Int) : stkF (l ++ [p]) = pushF (stkF l) p := by
  unfold stkF; rw [List.foldl_append]; rfl
set_option maxRecDepth 100000 in
set_option maxHeartbeats 8000000 in
theorem chain_any (W : World) (b off cap : Nat) (l : List (Int × Int)) (w : World) (hX : Ext W w) (hne : l ≠ []) (hlen : l.length ≤ 200) (hok : ∀ p ∈ l, okp p = true)
    (hc : ∀ i, (h : i < l.length) → w.cell? ⟨b, off + i * 2, none⟩ = some (.int .i64 (l[i]).1) ∧ w.cell? ⟨b, off + i * 2 + 1, none⟩ = some (.int .i64 (l[i]).2)) :
    Calls Try.prog 108 #[.slice (some ⟨b, off, none⟩) l.length cap] w fun e w' => ∃ vv, e = .returned vv ∧ Own w.heap.size w' vv (stkF l).tail.reverse ∧ Ext W w' ∧ Ext w w' := by
  have HC := Lib.hid hc
  have HOK := Lib.hid hok
  clear hc hok
  go_enter Try.func108, Try.ntmps108
  go_wp2_with fail
  go_loopw [8, 3] (fun x y wr => ∃ (k : Nat) (st : List (Int × Int)), x = .int .i64 k ∧ k ≤ l.length ∧ Hid (st = stkF (l.take k)) ∧ Own w.heap.size wr y st.reverse ∧ Hid (∀ z ∈ st, okp z = true) ∧ st.length ≤ k ∧ Ext w wr) (fun x _ _ => l.length - (intOf x).toNat)
  case atStart => exact ⟨0, [], rfl, Nat.zero_le _, (show [] = _ from rfl), Own.nil _ _, (show ∀ z ∈ ([] : List (Int × Int)), okp z = true from fun z hz => by cases hz), Nat.le_refl _, Ext.refl _⟩
  case round =>
    obtain ⟨k, st, rfl, hk, HST, ho, HO, hstk, hx⟩ := hrel
    by_cases hlt : k < l.length
    · have hltz : (k : Int) < (l.length : Int) := by omega
      obtain ⟨px, py, hp⟩ : ∃ px py, l[k] = (px, py) := ⟨_, _, rfl⟩
      have c0 := hx.cell (HC.out k hlt).1
      have c1 := hx.cell (HC.out k hlt).2
      have okp' := HOK.out _ (List.getElem_mem hlt)
      rw [hp] at c0 c1 okp'
      simp only [okp, Bool.and_eq_true] at okp'
      simp only at c0 c1
      have HS2 : Hid (stkF (l.take (k + 1)) = pushF st (px, py)) := by
        unfold Hid
        rw [List.take_succ_eq_append_getElem hlt, stk_snoc, hp, HST.out]
      clear hp
      go_wp2_with fail
      have hP := BoxN.new wr 23 #[.int .i64 px, .int .i64 py]
      have hx5 := hx.alloc (.cells #[.int .i64 px, .int .i64 py] 23)
      have ho5 := ho.ext ((Ext.refl wr).alloc (.cells #[.int .i64 px, .int .i64 py] 23))
      obtain ⟨w5, hw5⟩ : ∃ w5, wr.alloc (.cells #[.int .i64 px, .int .i64 py] 23) = w5 := ⟨_, rfl⟩
      change BoxN (wr.alloc (.cells #[.int .i64 px, .int .i64 py] 23)) _ _ _ at hP
      change Code.wp _ _ _ _ (wr.alloc (.cells #[.int .i64 px, .int .i64 py] 23))
      rw [hw5] at hP hx5 ho5 ⊢
      clear hw5 c0 c1
      generalize wr.heap.size = P at hP ⊢
      clear hx ho
      go_loopw [3] (fun y wt => ∃ s : List (Int × Int), Own w.heap.size wt y s.reverse ∧ Hid (popF s (px, py) = popF st (px, py)) ∧ Hid (∀ z ∈ s, okp z = true) ∧ s.length ≤ k ∧ Ext w5 wt) (fun y _ => slLen y)
      case atStart => exact ⟨st, ho5, rfl, HO, hstk, Ext.refl _⟩
      case round =>
        clear ho5 HO
        obtain ⟨s, ho, HPOP, HO, hsk, hx⟩ := hrel
        have hLen := ho.len
        rcases s with _ | ⟨z, _ | ⟨a, r⟩⟩
        · obtain ⟨a0, c0', e0, _⟩ := ho.pts
          subst e0
          simp only [List.reverse_nil, List.length_nil] at hLen ⊢
          have hg1 : decide ((0 : Int) > 1) = false := by decide
          obtain ⟨p0, p1, _⟩ := BoxN.box2 (hP.ext hx)
          go_wp2_with fail
          have mixed : Try.prog.follows .mixedOrders = true := by kernel_rfl
          go_big_region_o
          clear mixed
          have hx : Ext w5 wr.drew := hx.drew
          have ho := ho.ext (Ext.refl wr).drew
          have hPd := hP.ext hx
          clear p0 p1
          generalize wr.drew = wd at hx ho hPd ⊢
          obtain ⟨p0, p1, _⟩ := BoxN.box2 hPd
          have HF : Hid (stkF (l.take (k + 1)) = (px, py) :: ([] : List (Int × Int))) := by
            unfold Hid
            rw [HS2.out, pushF, ← HPOP.out]
            exact congrArg _ (show popF ([] : List (Int × Int)) (px, py) = [] from rfl)
          have HO2 : Hid (∀ u ∈ (px, py) :: ([] : List (Int × Int)), okp u = true) := by
            intro q hq
            rcases List.mem_cons.1 hq with e | hq
            · rw [e]
              simp only [okp, Bool.and_eq_true]
              exact okp'
            · exact HO.out q hq
          go_wp2_with (at_builtin; refine app_pt rfl (.tmp 37) (.tmp 39) rfl w.heap.size _ (([] : List (Int × Int))).reverse rfl (Own.ext ho ((Ext.refl _).alloc _)) _ px py rfl ?c1 ?c2 ?c3 ((hx5.trans hx).alloc _) (Nat.le_refl _) ?_)
          case c1 => go_simp
          case c2 => go_simp
          case c3 => (first | (simp; done) | (simp only [List.length_reverse, List.length_cons]; omega))
          intro v' w1 ho1 _ hext
          go_wp2_with fail
          go_round
          case rel => exact ⟨k + 1, (px, py) :: (([] : List (Int × Int))), by simp, by omega, (show _ = _ from HF.out.symm), by rw [List.reverse_cons]; exact ho1, HO2, by simp only [List.length_cons, List.length_nil] at hsk ⊢; omega, hext w (Nat.le_refl _) ((hx5.trans hx).alloc _)⟩
          case measure => simp [intOf]; omega
        · obtain ⟨g, cp, e1, e2, e3, e4, hr⟩ := Own.rpt ho (by simp)
          subst e1
          simp only [List.length_reverse, List.length_cons, List.length_nil] at hsk e2 ⊢
          have hg1 : decide ((1 : Int) > 1) = false := by decide
          obtain ⟨p0, p1, _⟩ := BoxN.box2 (hP.ext hx)
          go_wp2_with fail
          have mixed : Try.prog.follows .mixedOrders = true := by kernel_rfl
          go_big_region_o
          clear mixed
          have hx : Ext w5 wr.drew := hx.drew
          have ho := ho.ext (Ext.refl wr).drew
          have hPd := hP.ext hx
          clear p0 p1
          generalize wr.drew = wd at hx ho hPd ⊢
          obtain ⟨p0, p1, _⟩ := BoxN.box2 hPd
          have HF : Hid (stkF (l.take (k + 1)) = (px, py) :: [z]) := by
            unfold Hid
            rw [HS2.out, pushF, ← HPOP.out]
            exact congrArg _ (show popF [z] (px, py) = [z] from rfl)
          have HO2 : Hid (∀ u ∈ (px, py) :: [z], okp u = true) := by
            intro q hq
            rcases List.mem_cons.1 hq with e | hq
            · rw [e]
              simp only [okp, Bool.and_eq_true]
              exact okp'
            · exact HO.out q hq
          go_wp2_with (at_builtin; refine app_pt rfl (.tmp 37) (.tmp 39) rfl w.heap.size _ ([z]).reverse rfl (Own.ext ho ((Ext.refl _).alloc _)) _ px py rfl ?c1 ?c2 ?c3 ((hx5.trans hx).alloc _) (Nat.le_refl _) ?_)
          case c1 => go_simp
          case c2 => go_simp
          case c3 => (first | (simp; done) | (simp only [List.length_reverse, List.length_cons]; omega))
          intro v' w1 ho1 _ hext
          go_wp2_with fail
          go_round
          case rel => exact ⟨k + 1, (px, py) :: ([z]), by simp, by omega, (show _ = _ from HF.out.symm), by rw [List.reverse_cons]; exact ho1, HO2, by simp only [List.length_cons, List.length_nil] at hsk ⊢; omega, hext w (Nat.le_refl _) ((hx5.trans hx).alloc _)⟩
          case measure => simp [intOf]; omega
        · obtain ⟨g, cp, e1, e2, e3, e4, hr⟩ := Own.rpt ho (by simp)
          subst e1
          simp only [List.length_reverse, List.length_cons] at hsk e2 ⊢
          obtain ⟨N, hN⟩ : ∃ N, r.length + 1 + 1 = N := ⟨_, rfl⟩
          obtain ⟨Q, hQ⟩ : ∃ N, r.length + 1 = N := ⟨_, rfl⟩
          obtain ⟨R, hR⟩ : ∃ N, r.length = N := ⟨_, rfl⟩
          have cz := (hr.row Q (by simp; omega)).1
          have ca := (hr.row R (by simp; omega)).1
          have ez : (z :: a :: r).reverse[Q]'(by simp; omega) = z := by rw [List.getElem_reverse]; simp [← hQ]
          have ea : (z :: a :: r).reverse[R]'(by simp; omega) = a := by rw [List.getElem_reverse]; simp [← hR]
          rw [ez] at cz
          rw [ea] at ca
          simp only [Nat.zero_add] at cz ca
          rw [hN] at hsk e2 ⊢
          have n1 : (N : Int) - 1 = (Q : Int) := by omega
          have n2 : (N : Int) - 2 = (R : Int) := by omega
          have wq : IntKind.i64.wrap (Q : Int) = (Q : Int) := by rw [IntKind.wrap_i64]; omega
          have wr' : IntKind.i64.wrap (R : Int) = (R : Int) := by rw [IntKind.wrap_i64]; omega
          have bQ : (Q : Int) < (N : Int) := by omega
          have bR : (R : Int) < (N : Int) := by omega
          have bC : (Q : Int) ≤ (cp : Int) := by omega
          have hg1 : decide ((N : Int) > 1) = true := decide_eq_true (by omega)
          have hg2 : (1 : Int) < (N : Int) := by omega
          have HN := Lib.hid hN
          have HQ := Lib.hid hQ
          have HR := Lib.hid hR
          have ho : Own w.heap.size wr (.slice (some ⟨g, 0, none⟩) N cp) (z :: a :: r).reverse := by
            have h := ho
            rw [List.length_reverse] at h
            simp only [List.length_cons, hN] at h
            exact h
          clear hN hQ hR ez ea
          obtain ⟨p0, p1, _⟩ := BoxN.box2 (hP.ext hx)
          have p0 := cell_regrown p0
          have p1 := cell_regrown p1
          have ca0 := cell_regrown ca.1
          have ca1 := cell_regrown ca.2
          have cz0 := cell_regrown cz.1
          have cz1 := cell_regrown cz.2
          have oz := HO.out z (by simp)
          have oa := HO.out a (by simp)
          simp only [okp, Bool.and_eq_true] at oz oa
          have cT := regrow (w := wr) (fun w' => twice_any w' _ _ _ _ _ _ w' (Ext.refl _) oa.1 oa.2 oz.1 oz.2 okp'.1 okp'.2)
          obtain ⟨T, hT⟩ : ∃ T, twz a.1 a.2 z.1 z.2 px py = T := ⟨_, rfl⟩
          rw [hT] at cT
          have HT : Hid (tw a z (px, py) = T) := hT
          clear hT cz ca oz oa
          by_cases hT0 : T ≤ 0
          · go_wp2_with fail
            refine wp_region_quiet_below (by kernel_rfl) (by kernel_rfl) ?_
            repeat (quiet_step (with_reducible exact cT _ _))
            refine wpQuiet_nil ?_
            intro _ hw'
            obtain ⟨⟨dq, osq⟩, hw''⟩ := hw'
            subst hw''
            have hXq : Ext wr (Go.Sort.grow (redrawn wr dq) osq) := below_regrown wr dq osq
            have hx := hx.trans hXq
            have ho := ho.ext hXq
            have hPd := hP.ext hx
            change Exit.then _ _ Exit.normal _ (Go.Sort.grow (redrawn wr dq) osq)
            generalize Go.Sort.grow (redrawn wr dq) osq = wd at hx ho hPd ⊢
            clear hXq p0 p1 ca0 ca1 cz0 cz1 cT hr
            obtain ⟨p0, p1, _⟩ := BoxN.box2 hPd
            go_wp2_with fail
            go_round
            case rel => exact ⟨a :: r, by have h := Own.pop (l := (a :: r).reverse) (p := z) (by rw [← List.reverse_cons]; exact ho); rw [List.length_reverse, List.length_cons, HR.out] at h; have h2 := HQ.out; have h3 := HR.out; rw [show Q = R + 1 from by omega]; exact h, (show popF (a :: r) (px, py) = _ from by rw [← HPOP.out]; have h := HT.out; rw [popF, if_pos (by omega)]), fun u hu => HO.out u (List.mem_cons_of_mem _ hu), by have h2 := HR.out; have h3 := HN.out; simp only [List.length_cons]; omega, hx⟩
            case measure => simp [slLen]; omega
          · go_wp2_with fail
            refine wp_region_quiet_below (by kernel_rfl) (by kernel_rfl) ?_
            repeat (quiet_step (with_reducible exact cT _ _))
            refine wpQuiet_nil ?_
            intro _ hw'
            obtain ⟨⟨dq, osq⟩, hw''⟩ := hw'
            subst hw''
            have hXq : Ext wr (Go.Sort.grow (redrawn wr dq) osq) := below_regrown wr dq osq
            have hx := hx.trans hXq
            have ho := ho.ext hXq
            have hPd := hP.ext hx
            change Exit.then _ _ Exit.normal _ (Go.Sort.grow (redrawn wr dq) osq)
            generalize Go.Sort.grow (redrawn wr dq) osq = wd at hx ho hPd ⊢
            clear hXq p0 p1 ca0 ca1 cz0 cz1 cT hr
            obtain ⟨p0, p1, _⟩ := BoxN.box2 hPd
            have HF : Hid (stkF (l.take (k + 1)) = (px, py) :: z :: a :: r) := by
              unfold Hid
              rw [HS2.out, pushF, ← HPOP.out]
              exact congrArg _ (show popF (z :: a :: r) (px, py) = z :: a :: r from by rw [popF, if_neg (by have h := HT.out; omega)])
            have HO2 : Hid (∀ u ∈ (px, py) :: z :: a :: r, okp u = true) := by
              intro q hq
              rcases List.mem_cons.1 hq with e | hq
              · rw [e]
                simp only [okp, Bool.and_eq_true]
                exact okp'
              · exact HO.out q hq
            go_wp2_with (at_builtin; refine app_pt rfl (.tmp 37) (.tmp 39) rfl w.heap.size _ (z :: a :: r).reverse rfl (Own.ext ho ((Ext.refl _).alloc _)) _ px py rfl ?c1 ?c2 ?c3 ((hx5.trans hx).alloc _) (Nat.le_refl _) ?_)
            case c1 => go_simp
            case c2 => go_simp
            case c3 => (have h := HN.out; simp only [List.length_reverse, List.length_cons]; omega)
            intro v' w1 ho1 _ hext
            go_wp2_with fail
            go_round
            case rel => exact ⟨k + 1, (px, py) :: (z :: a :: r), by simp, by omega, (show _ = _ from HF.out.symm), by rw [List.reverse_cons (a := (px, py))]; simpa using ho1, HO2, by have h := HN.out; simp only [List.length_cons]; omega, hext w (Nat.le_refl _) ((hx5.trans hx).alloc _)⟩
            case measure => simp [intOf]; omega
    · obtain rfl : k = l.length := by omega
      have hlt2 : ¬ ((l.length : Int) < (l.length : Int)) := by omega
      have HS3 := HST.out
      rw [List.take_length] at HS3
      obtain ⟨q, m, hm⟩ : ∃ q m, l = m ++ [q] := by
        rcases List.eq_nil_or_concat l with h | ⟨m, q, h⟩
        · exact absurd h hne
        · exact ⟨q, m, by rw [h, List.concat_eq_append]⟩
      have hst2 : st = q :: popF (stkF m) q := by rw [HS3, hm, stk_snoc]; rfl
      have HST2 : Hid (stkF l = st) := HS3.symm
      generalize popF (stkF m) q = r at hst2
      clear hm HST HS3
      subst hst2
      obtain ⟨g, cp, e1, e2, e3, e4, hr⟩ := Own.rpt ho (by simp)
      subst e1
      have ho2 := Own.pop (l := r.reverse) (p := q) (by rw [← List.reverse_cons]; exact ho)
      simp only [List.length_reverse, List.length_cons] at hstk e2 ho2 ⊢
      have n1 : ((r.length + 1 : Nat) : Int) - 1 = (r.length : Int) := by omega
      generalize r.length = R at *
      go_wp2_with fail
      go_ret
      exact ⟨_, rfl, by rw [HST2.out]; exact ho2, hX.trans hx, hx⟩
end Go.Proofs.Ytdbhbfmbpldmnaa
namespace Go.Proofs.Ytdbhbfmbpldmnaa
open Go.RowKit Go.Sort
def dpush (st : List (Int × Int)) (p : Int × Int) : List (Int × Int) := if st.head? = some p then st else p :: st
/-- equal neighbours once each, turned round -/
def dst (l : List (Int × Int)) : List (Int × Int) := l.foldl dpush []
theorem dst_snoc (l : List (Int × Int)) (p : Int × Int) : dst (l ++ [p]) = dpush (dst l) p := by
  unfold dst; rw [List.foldl_append]; rfl
theorem dst_head (l : List (Int × Int)) : (dst l).head? = l.getLast? := by
  rcases List.eq_nil_or_concat l with h | ⟨m, q, h⟩
  · subst h; rfl
  · subst h
    rw [List.concat_eq_append, dst_snoc, List.getLast?_concat, dpush]
    split
    · assumption
    · rfl
theorem dst_same (l : List (Int × Int)) (k : Nat) (hk : 0 < k) (h : k < l.length) (e : l[k] = l[k - 1]) : dst (l.take (k + 1)) = dst (l.take k) := by
  rw [List.take_succ_eq_append_getElem h, dst_snoc, dpush, dst_head, List.getLast?_take]
  rw [if_pos]
  rw [if_neg (by omega), List.getElem?_eq_getElem (by omega), e]
  rfl
theorem dst_next (l : List (Int × Int)) (k : Nat) (hk : 0 < k) (h : k < l.length) (e : l[k] ≠ l[k - 1]) : dst (l.take (k + 1)) = l[k] :: dst (l.take k) := by
  rw [List.take_succ_eq_append_getElem h, dst_snoc, dpush, dst_head, List.getLast?_take]
  rw [if_neg]
  rw [if_neg (by omega), List.getElem?_eq_getElem (by omega)]
  intro c
  exact e (by simpa using c.symm)
theorem take_set_succ (m : List (Int × Int)) (k : Nat) (u : Int × Int) (h : k < m.length) : (m.set k u).take (k + 1) = m.take k ++ [u] := by
  rw [List.take_succ_eq_append_getElem (by simpa using h), List.take_set_of_le (Nat.le_refl _), List.getElem_set_self]
theorem RPt.drew' {w0 w : World} {blk off : Nat} {l : List (Int × Int)} (h : RPt w0 blk off l w) : RPt w0 blk off l w.drew :=
  ⟨h.kx.drew, h.same, fun i hi => ⟨⟨(Ext.refl w).drew.cell (h.row i hi).1.1, (Ext.refl w).drew.cell (h.row i hi).1.2⟩, (Ext.refl w).drew.frozen (lt_of_cell (h.row i hi).1.1) (h.row i hi).2.1, (Ext.refl w).drew.frozen (a := ⟨blk, off + i * 2 + 1, none⟩) (lt_of_cell (h.row i hi).1.2) (h.row i hi).2.2⟩⟩
theorem RPt.set {w0 w : World} {blk off : Nat} {l : List (Int × Int)} (h : RPt w0 blk off l w) (k : Nat) (x y : Int) : RPt w0 blk off (l.set k (x, y)) ((w.setCell ⟨blk, off + k * 2, none⟩ (.int .i64 x)).setCell ⟨blk, off + k * 2 + 1, none⟩ (.int .i64 y)) := by
  refine ⟨(h.kx.set _ _).set _ _, ⟨h.same.1, h.same.2.1, h.same.2.2⟩, fun i hi => ?_⟩
  have hi' : i < l.length := by simpa using hi
  have hr := h.row i hi'
  refine ⟨?_, by rw [World.frozen?_setCell, World.frozen?_setCell]; exact hr.2.1, by rw [World.frozen?_setCell, World.frozen?_setCell]; exact hr.2.2⟩
  rw [List.getElem_set]
  by_cases e : k = i
  · subst e
    rw [if_pos rfl]
    refine ⟨?_, ?_⟩
    · rw [World.cell?_setCell_other _ _ _ _ (by intro e'; simp only [Addr.mk.injEq] at e'; omega)]
      exact World.cell?_setCell_same _ _ _ hr.1.1
    · exact World.cell?_setCell_same _ _ _ ((World.cell?_setCell_other _ _ _ _ (by intro e'; simp only [Addr.mk.injEq] at e'; omega)).trans hr.1.2)
  · rw [if_neg e]
    refine ⟨?_, ?_⟩
    · rw [World.cell?_setCell_other _ _ _ _ (by intro e'; simp only [Addr.mk.injEq] at e'; omega), World.cell?_setCell_other _ _ _ _ (by intro e'; simp only [Addr.mk.injEq] at e'; omega)]
      exact hr.1.1
    · rw [World.cell?_setCell_other _ _ _ _ (by intro e'; simp only [Addr.mk.injEq] at e'; omega), World.cell?_setCell_other _ _ _ _ (by intro e'; simp only [Addr.mk.injEq] at e'; omega)]
      exact hr.1.2
theorem KX.setCells {R : Nat} {w0 : World} : ∀ (vs : List Value) (o : Nat) {w : World}, KX R w0 w → KX R w0 (w.setCells R o vs)
  | [], _, _, h => h
  | v :: r, o, _, h => KX.setCells r (o + 1) (h.set o v)
theorem setCells_same : ∀ (vs : List Value) (b o : Nat) (w : World), (w.setCells b o vs).os = w.os ∧ (w.setCells b o vs).tape = w.tape ∧ (w.setCells b o vs).output = w.output
  | [], _, _, _ => ⟨rfl, rfl, rfl⟩
  | v :: r, b, o, w => setCells_same r b (o + 1) (w.setCell ⟨b, o, none⟩ v)
theorem setCells_frozen (a : Addr) : ∀ (vs : List Value) (b o : Nat) (w : World), (w.setCells b o vs).frozen? a = w.frozen? a
  | [], _, _, _ => rfl
  | v :: r, b, o, w => (setCells_frozen a r b (o + 1) (w.setCell ⟨b, o, none⟩ v)).trans (World.frozen?_setCell _ _ _ _)
theorem zero23 (w : World) : (zeroValue 23).run Try.prog w = .ok (.agg #[.int .i64 0, .int .i64 0]) w := by kernel_rfl
theorem run_clear_pts (w : World) (ty : TypeId) (b o n c : Nat) (hn : 0 < n) (hc : ∀ j, j < n * 2 → (w.cell? ⟨b, o + j, none⟩).isSome = true) (hf : ∀ j, j < n * 2 → w.frozen? ⟨b, o + j, none⟩ = false) :
    ∃ vs : List Value, vs.length = n * 2 ∧ (Builtin.clear_ #[39] ty #[.slice (some ⟨b, o, none⟩) n c]).run Try.prog w = .ok (.tuple #[]) (w.setCells b o vs) := by
  obtain ⟨vs, hvs⟩ : ∃ vs, (Builtin.zeroCells (Value.agg #[.int .i64 0, .int .i64 0]).cells n).toList = vs := ⟨_, rfl⟩
  have hl : vs.length = n * 2 := by rw [← hvs]; simp [Builtin.zeroCells, Value.cells]
  have h1 : ∀ v ∈ vs, v.oneCell' = true := by
    intro v hv
    rw [← hvs] at hv
    simp [Builtin.zeroCells, Value.cells] at hv
    obtain ⟨i, _, h⟩ := hv
    have : i % 2 = 0 ∨ i % 2 = 1 := by omega
    rcases this with e | e <;> simp [e] at h <;> (subst h; rfl)
  have hst := run_storeCells_cells (P := Try.prog) b o vs 0 w (by rw [hl]; simpa using hc) (by rw [hl]; simpa using hf) h1
  simp only [Nat.add_zero] at hst
  refine ⟨vs, hl, ?_⟩
  obtain ⟨m, rfl⟩ : ∃ m, n = m + 1 := ⟨n - 1, by omega⟩
  simp [Builtin.clear_, run_underlying Try.underlying39, hvs, hst]
theorem RPt.cut {w0 w : World} {blk off : Nat} {l : List (Int × Int)} (h : RPt w0 blk off l w) (k : Nat) (vs : List Value) : RPt w0 blk off (l.take k) (w.setCells blk (off + k * 2) vs) := by
  refine ⟨KX.setCells _ _ h.kx, ?_, fun i hi => ?_⟩
  · obtain ⟨a, b, c⟩ := setCells_same vs blk (off + k * 2) w
    exact ⟨a.trans h.same.1, b.trans h.same.2.1, c.trans h.same.2.2⟩
  · have hik : i < k ∧ i < l.length := by rw [List.length_take] at hi; omega
    have hr := h.row i hik.2
    rw [List.getElem_take, setCells_frozen, setCells_frozen, World.cell?_setCells_out _ _ _ _ _ (fun _ _ => Or.inl (by show _ < _; simp only; omega)), World.cell?_setCells_out _ _ _ _ _ (fun _ _ => Or.inl (by show _ < _; simp only; omega))]
    exact hr
theorem RPt.some {w0 w : World} {blk off : Nat} {l : List (Int × Int)} (h : RPt w0 blk off l w) (j : Nat) (hj : j < l.length * 2) : (w.cell? ⟨blk, off + j, none⟩).isSome = true ∧ w.frozen? ⟨blk, off + j, none⟩ = false := by
  have hr := h.row (j / 2) (by omega)
  have : j % 2 = 0 ∨ j % 2 = 1 := by omega
  rcases this with e | e
  · rw [show off + j = off + j / 2 * 2 from by omega, hr.1.1]
    exact ⟨rfl, hr.2.1⟩
  · rw [show off + j = off + j / 2 * 2 + 1 from by omega, hr.1.2]
    exact ⟨rfl, hr.2.2⟩
set_option maxRecDepth 1000000 in
set_option maxHeartbeats 8000000 in
theorem compact_any (blk off cap : Nat) (l : List (Int × Int)) (w0 w : World) (h : RPt w0 blk off l w) (hlen : l.length < 4611686018427387904) (hcap : l.length ≤ cap) :
    Calls Try.prog 107 #[.slice (some ⟨blk, off, none⟩) l.length cap] w fun e w' => e = .returned (.slice (some ⟨blk, off, none⟩) (dst l).length cap) ∧ RPt w0 blk off (dst l).reverse w' := by
  by_cases h2 : l.length < 2
  · have hd : (dst l).reverse = l := by
      rcases l with _ | ⟨a, _ | ⟨b, r⟩⟩
      · rfl
      · rfl
      · simp only [List.length_cons] at h2; omega
    have hd2 : (dst l).length = l.length := by rw [← List.length_reverse, hd]
    have h2z : (l.length : Int) < 2 := by omega
    rw [hd, hd2]
    have H := Lib.hid h
    clear h hd hd2
    go_enter Try.func107, Try.ntmps107
    go_wp2_with fail
    go_ret
    exact ⟨rfl, H.out⟩
  · have h2z : ¬ (l.length : Int) < 2 := by omega
    go_enter Try.func107, Try.ntmps107
    go_wp2_with fail
    go_loopw [3] (fun x wr => ∃ i : Nat, x = .int .i64 i ∧ 1 ≤ i ∧ i ≤ l.length ∧ RPt w0 blk off l wr ∧ Hid (dst (l.take i) = (l.take i).reverse)) (fun x _ => l.length - (intOf x).toNat)
    case atStart => exact ⟨1, rfl, Nat.le_refl _, by omega, h, by
      unfold Hid
      rcases l with _ | ⟨a, r⟩
      · simp at h2
      · rfl⟩
    case round =>
      clear h
      obtain ⟨i, rfl, hi1, hi, h, HD⟩ := hrel
      by_cases hlt : i < l.length
      · have hltz : (i : Int) < (l.length : Int) := by omega
        obtain ⟨p, hp⟩ : ∃ p, i - 1 = p := ⟨_, rfl⟩
        have n1 : (i : Int) - 1 = (p : Int) := by omega
        have n2 : (p : Int) < (l.length : Int) := by omega
        have wp' : IntKind.i64.wrap (p : Int) = (p : Int) := by rw [IntKind.wrap_i64]; omega
        have hpl : p < l.length := by omega
        obtain ⟨ax, ay, ha⟩ : ∃ x y, l[i] = (x, y) := ⟨_, _, rfl⟩
        obtain ⟨bx, bye, hb⟩ : ∃ x y, l[p] = (x, y) := ⟨_, _, rfl⟩
        have ca := (h.row i hlt).1
        have cb := (h.row p hpl).1
        rw [ha] at ca
        rw [hb] at cb
        have ca0 := ca.1
        have ca1 := ca.2
        have cb0 := cb.1
        have cb1 := cb.2
        simp only at ca0 ca1 cb0 cb1
        have he := run_eql_pt ax ay bx bye
        have HP := Lib.hid hp
        have HA := Lib.hid ha
        have HB := Lib.hid hb
        clear hp ha hb ca cb
        by_cases hdup : ax = bx ∧ ay = bye
        · have HE := Lib.hid hdup
          rw [decide_eq_true hdup] at he
          clear hdup
          go_wp2_with fail
          have mixed : Try.prog.follows .mixedOrders = true := by kernel_rfl
          go_big_region_o
          clear mixed
          have h := h.drew'
          clear ca0 ca1 cb0 cb1 he n1 n2 wp'
          generalize wr.drew = wd at h ⊢
          have hlc : (i : Int) ≤ (cap : Int) := by omega
          have s1 : (l.length : Int) - (i : Int) = ((l.length - i : Nat) : Int) := by omega
          have HI : Hid (dst (l.take (i + 1)) = (l.take i).reverse) := by
            unfold Hid
            have e1 := HA.out
            have e2 := HB.out
            have e3 := HP.out
            subst e3
            rw [dst_same l i (by omega) hlt (by rw [e1, e2, HE.out.1, HE.out.2]), HD.out]
          clear HP HA HB HE HD
          go_wp2_with fail
          obtain ⟨M, hM⟩ : ∃ M, l.length - i = M := ⟨_, rfl⟩
          obtain ⟨CP, hCP⟩ : ∃ M, cap - i = M := ⟨_, rfl⟩
          rw [hM, hCP]
          have HM := Lib.hid hM
          have HCP := Lib.hid hCP
          clear hM hCP s1
          go_loopw [3, 5] (fun x y wt => ∃ (kk k2 : Nat) (m : List (Int × Int)), x = .int .i64 kk ∧ y = .int .i64 k2 ∧ 1 ≤ k2 ∧ i + k2 ≤ l.length ∧ kk < i + k2 ∧ RPt w0 blk off m wt ∧ Hid (m.length = l.length) ∧ Hid (∀ j, i + k2 - 1 ≤ j → m[j]? = l[j]?) ∧ Hid (dst (l.take (i + k2)) = (m.take kk).reverse)) (fun _ y _ => l.length - i - (intOf y).toNat)
          case atStart => exact ⟨i, 1, l, rfl, rfl, Nat.le_refl _, by omega, by omega, h, rfl, fun _ _ => rfl, HI⟩
          case round =>
            clear h HI
            obtain ⟨kk, k2, m, rfl, rfl, hk1, hk2, hkk, h, HL, HJ, HD⟩ := hrel
            have hml := HL.out
            by_cases hlt2 : i + k2 < l.length
            · have g1 : (k2 : Int) < (M : Int) := by have := HM.out; omega
              obtain ⟨p, hp⟩ : ∃ p, k2 - 1 = p := ⟨_, rfl⟩
              have n1 : (k2 : Int) - 1 = (p : Int) := by omega
              have n2 : (p : Int) < (M : Int) := by have := HM.out; omega
              have wp' : IntKind.i64.wrap (p : Int) = (p : Int) := by rw [IntKind.wrap_i64]; omega
              have n3 : (kk : Int) < (l.length : Int) := by omega
              obtain ⟨ax, ay, ha⟩ : ∃ x y, m[i + k2]'(by omega) = (x, y) := ⟨_, _, rfl⟩
              obtain ⟨bx, bye, hb⟩ : ∃ x y, m[i + p]'(by omega) = (x, y) := ⟨_, _, rfl⟩
              have ca := (h.row (i + k2) (by omega)).1
              have cb := (h.row (i + p) (by omega)).1
              have ck := h.row kk (by omega)
              rw [ha] at ca
              rw [hb] at cb
              rw [show off + (i + k2) * 2 = off + i * 2 + k2 * 2 from by omega] at ca
              rw [show off + (i + p) * 2 = off + i * 2 + p * 2 from by omega] at cb
              have ca0 := ca.1
              have ca1 := ca.2
              have cb0 := cb.1
              have cb1 := cb.2
              have ck0 := ck.1.1
              have ck1 := ck.1.2
              have fk0 := ck.2.1
              have fk1 := ck.2.2
              simp only at ca0 ca1 cb0 cb1
              generalize (m[kk]'(by omega)).1 = o0 at ck0
              generalize (m[kk]'(by omega)).2 = o1 at ck1
              have he := run_neq_pt ax ay bx bye
              have la : l[i + k2] = (ax, ay) := by
                have := HJ.out (i + k2) (by omega)
                rw [List.getElem?_eq_getElem (by omega), List.getElem?_eq_getElem (by omega), ha] at this
                exact (Option.some.inj this).symm
              have lb : l[i + k2 - 1] = (bx, bye) := by
                have := HJ.out (i + p) (by omega)
                rw [List.getElem?_eq_getElem (by omega), List.getElem?_eq_getElem (by omega), hb] at this
                have e : i + k2 - 1 = i + p := by omega
                simp only [e]
                exact (Option.some.inj this).symm
              have LA := Lib.hid la
              have LB := Lib.hid lb
              have HP := Lib.hid hp
              clear la lb ha hb hp ca cb ck
              by_cases hdup : ax = bx ∧ ay = bye
              · have HE := Lib.hid hdup
                rw [decide_eq_true hdup] at he
                clear hdup
                go_wp2_with fail
                have mixed : Try.prog.follows .mixedOrders = true := by kernel_rfl
                go_big_region_o
                clear mixed
                have h := h.drew'
                clear ca0 ca1 cb0 cb1 ck0 ck1 fk0 fk1 he
                generalize wr.drew = wd at h ⊢
                go_wp2
                go_round
                case rel => exact ⟨kk, k2 + 1, m, rfl, by go_num, by omega, by omega, by omega, h, HL, fun j hj => HJ.out j (by omega), by
                  unfold Hid
                  have e1 := LA.out
                  have e2 := LB.out
                  rw [← Nat.add_assoc, dst_same l (i + k2) (by omega) hlt2 (by rw [e1, e2, HE.out.1, HE.out.2])]
                  exact HD.out⟩
                case measure => simp [intOf]; omega
              · have HE := Lib.hid hdup
                rw [decide_eq_false hdup] at he
                clear hdup
                go_wp2_with fail
                have mixed : Try.prog.follows .mixedOrders = true := by kernel_rfl
                go_big_region_o
                clear mixed
                have d0 : ∀ {a v}, wr.cell? a = some v → wr.drew.cell? a = some v := fun e => (Ext.refl wr).drew.cell e
                have f0 := (Ext.refl wr).drew.frozen (a := ⟨blk, off + kk * 2, none⟩) (lt_of_cell ck0) fk0
                have f1 := (Ext.refl wr).drew.frozen (a := ⟨blk, off + kk * 2 + 1, none⟩) (lt_of_cell ck1) fk1
                have ca0 := d0 ca0
                have ca1 := d0 ca1
                have ck0 := d0 ck0
                have ck1 := d0 ck1
                have h := h.drew'
                clear d0 fk0 fk1 he
                generalize wr.drew = w1 at h ca0 ca1 ck0 ck1 f0 f1 ⊢
                clear cb0 cb1
                have HS := Lib.hid (h.set kk ax ay)
                have ck2 : (w1.setCell ⟨blk, off + kk * 2, none⟩ (.int .i64 ax)).cell? ⟨blk, off + kk * 2 + 1, none⟩ = some (.int .i64 o1) := (World.cell?_setCell_other _ _ _ _ (by intro e'; simp only [Addr.mk.injEq] at e'; omega)).trans ck1
                clear h
                go_wp2_with fail
                have h := HS.out
                clear ca0 ca1 ck0 ck1 ck2 f0 f1 HS
                generalize (w1.setCell ⟨blk, off + kk * 2, none⟩ (.int .i64 ax)).setCell ⟨blk, off + kk * 2 + 1, none⟩ (.int .i64 ay) = wd at h ⊢
                try go_wp2
                go_round
                case rel => exact ⟨kk + 1, k2 + 1, m.set kk (ax, ay), by go_num, by go_num, by omega, by omega, by omega, h, by unfold Hid; rw [List.length_set]; exact HL.out, fun j hj => by rw [List.getElem?_set_ne (by omega)]; exact HJ.out j (by omega), by
                  unfold Hid
                  have e1 := LA.out
                  have e2 := LB.out
                  rw [← Nat.add_assoc, dst_next l (i + k2) (by omega) hlt2 (by rw [e1, e2]; intro c; exact HE.out ⟨congrArg Prod.fst c, congrArg Prod.snd c⟩), HD.out, e1, take_set_succ m kk _ (by have := HL.out; omega), List.reverse_append]
                  rfl⟩
                case measure => simp [intOf]; omega
            · have g1 : ¬ (k2 : Int) < (M : Int) := by have := HM.out; omega
              have hend : i + k2 = l.length := by omega
              have HD2 := HD.out
              rw [hend, List.take_length] at HD2
              have hkl : Hid ((dst l).length = kk) := by unfold Hid; rw [HD2, List.length_reverse, List.length_take]; omega
              obtain ⟨vs, _, hcl⟩ := run_clear_pts wr 0 blk (off + kk * 2) (l.length - kk) (cap - kk) (by omega) (fun j hj => by rw [show off + kk * 2 + j = off + (kk * 2 + j) by omega]; exact (h.some _ (by omega)).1) (fun j hj => by rw [show off + kk * 2 + j = off + (kk * 2 + j) by omega]; exact (h.some _ (by omega)).2)
              have H : Hid (RPt w0 blk off (dst l).reverse (wr.setCells blk (off + kk * 2) vs)) := by
                unfold Hid
                rw [HD2, List.reverse_reverse]
                exact h.cut kk vs
              have n3 : (kk : Int) ≤ (l.length : Int) := by omega
              have n4 : (l.length : Int) ≤ (cap : Int) := by omega
              have n5 : (kk : Int) ≤ (cap : Int) := by omega
              clear h HD HD2 hml hend hlt2
              go_wp2_with fail
              go_ret
              exact ⟨by rw [hkl.out]; rfl, H.out⟩
        · rw [decide_eq_false hdup] at he
          have HE := Lib.hid hdup
          clear hdup
          go_wp2_with fail
          have mixed : Try.prog.follows .mixedOrders = true := by kernel_rfl
          go_big_region_o
          clear mixed
          have h := h.drew'
          clear ca0 ca1 cb0 cb1 he
          generalize wr.drew = wd at h ⊢
          go_wp2
          go_round
          case rel => exact ⟨i + 1, by go_num, by omega, by omega, h, by
            unfold Hid
            have hne : l[i] ≠ l[i - 1] := by
              have e1 := HA.out
              have e2 := HB.out
              have e3 := HP.out
              subst e3
              rw [e1, e2]
              intro c
              exact HE.out ⟨congrArg Prod.fst c, congrArg Prod.snd c⟩
            rw [dst_next l i (by omega) hlt hne, HD.out, List.take_succ_eq_append_getElem hlt, List.reverse_append]
            rfl⟩
          case measure => simp [intOf]; omega
      · obtain rfl : i = l.length := by omega
        have HD2 := HD.out
        rw [List.take_length] at HD2
        have hlt2 : ¬ ((l.length : Int) < (l.length : Int)) := by omega
        have H : Hid (RPt w0 blk off (dst l).reverse wr) := by
          unfold Hid
          rw [HD2, List.reverse_reverse]; exact h
        have hl2 : Hid ((dst l).length = l.length) := by unfold Hid; rw [HD2, List.length_reverse]
        clear h HD HD2
        go_wp2_with fail
        go_ret
        exact ⟨by rw [hl2.out]; rfl, H.out⟩
end Go.Proofs.Ytdbhbfmbpldmnaa
namespace Go.Proofs.Ytdbhbfmbpldmnaa
open Go.RowKit Go.Sort
def huE (l : List (Int × Int)) : Int := if l.length = 0 ∨ 200 < l.length then 2 else if l.all okp = true then 0 else 1
theorem RPt.ext_of {w0 w w5 : World} {blk off : Nat} {l : List (Int × Int)} (h : RPt w0 blk off l w) (x : Ext w5 w0) (hb : w5.heap.size ≤ blk) : Ext w5 w :=
  ⟨h.same.1.trans x.os, h.same.2.1.trans x.tape, h.same.2.2.trans x.output, Nat.le_trans x.le h.kx.1, fun k hk => (h.kx.2 k (Nat.lt_of_lt_of_le hk x.le) (by omega)).trans (x.block k hk)⟩
theorem RPt.ext {w0 w w' : World} {blk off : Nat} {l : List (Int × Int)} (h : RPt w0 blk off l w) (x : Ext w w') : RPt w0 blk off l w' :=
  ⟨h.kx.ext x, ⟨x.os.trans h.same.1, x.tape.trans h.same.2.1, x.output.trans h.same.2.2⟩, fun i hi => ⟨⟨x.cell (h.row i hi).1.1, x.cell (h.row i hi).1.2⟩, x.frozen (a := ⟨blk, off + i * 2, none⟩) (lt_of_cell (h.row i hi).1.1) (h.row i hi).2.1, x.frozen (a := ⟨blk, off + i * 2 + 1, none⟩) (lt_of_cell (h.row i hi).1.2) (h.row i hi).2.2⟩⟩
theorem Own.kx {base R : Nat} {w w' : World} {v : Value} {l : List (Int × Int)} (h : Own base w v l) (k : KX R w w') (hb : R < base) : Own base w' v l := by
  obtain ⟨h1, h2⟩ := h
  refine ⟨h1, ?_⟩
  rcases h2 with h2 | ⟨g, cap, cur, hv, hbg, hg, r⟩
  · exact Or.inl h2
  · refine Or.inr ⟨g, cap, cur, hv, hbg, ?_, r⟩
    have hlt : g < w.heap.size := by
      rcases Nat.lt_or_ge g w.heap.size with h' | h'
      · exact h'
      · rw [Array.getElem?_eq_none h'] at hg
        cases hg
    exact (k.2 g hlt (by omega)).trans hg
theorem vp_list : ∀ (l : List (Int × Int)), (∀ p ∈ l, okp p = true) → ∃ L : List VP, L.map (·.1) = l
  | [], _ => ⟨[], rfl⟩
  | p :: l, h => by
    obtain ⟨L, e⟩ := vp_list l (fun q hq => h q (by simp [hq]))
    exact ⟨⟨p, h p (by simp)⟩ :: L, by simp [e]⟩
theorem dst_mem : ∀ (l : List (Int × Int)) (st : List (Int × Int)) (q : Int × Int), q ∈ l.foldl dpush st ↔ q ∈ st ∨ q ∈ l
  | [], st, q => by simp
  | p :: l, st, q => by
    rw [List.foldl_cons, dst_mem l]
    unfold dpush
    split
    · rename_i h
      have : p ∈ st := List.mem_of_mem_head? (by rw [h]; rfl)
      simp only [List.mem_cons]
      constructor
      · rintro (h | h)
        · exact .inl h
        · exact .inr (.inr h)
      · rintro (h | rfl | h)
        · exact .inl h
        · exact .inl this
        · exact .inr h
    · simp only [List.mem_cons]
      constructor
      · rintro ((h | h) | h)
        · exact .inr (.inl h)
        · exact .inl h
        · exact .inr (.inr h)
      · rintro (h | h | h)
        · exact .inl (.inr h)
        · exact .inl (.inl h)
        · exact .inr h
theorem ltP_total {a b : Int × Int} (h : ¬ ltP b a) (hne : a ≠ b) : ltP a b := by
  obtain ⟨ax, ay⟩ := a
  obtain ⟨bx, b_y⟩ := b
  simp only [ne_eq, Prod.mk.injEq] at hne
  unfold ltP at *
  simp only at *
  omega
theorem ltP_of_le {a b c : Int × Int} (h1 : ltP a b) (h2 : ¬ ltP c b) : ltP a c := by
  unfold ltP at *
  omega
theorem dst_lt : ∀ (l : List (Int × Int)) (st : List (Int × Int)), st.Pairwise (fun a b => ltP b a) → l.Pairwise (fun a b => ¬ ltP b a) → (∀ a ∈ st, ∀ b ∈ l, ¬ ltP b a) → (l.foldl dpush st).Pairwise (fun a b => ltP b a)
  | [], st, h, _, _ => h
  | p :: l, st, h1, h2, h3 => by
    rw [List.foldl_cons]
    obtain ⟨k1, k2⟩ := List.pairwise_cons.1 h2
    refine dst_lt l _ ?_ k2 ?_
    · unfold dpush
      split
      · exact h1
      · rename_i hne
        rcases st with _ | ⟨s, r⟩
        · simp
        · have hs : ltP s p := ltP_total (h3 s (by simp) p (by simp)) (by intro e; exact hne (by rw [e]; rfl))
          refine List.pairwise_cons.2 ⟨fun b hb => ?_, h1⟩
          rcases List.mem_cons.1 hb with rfl | hb
          · exact hs
          · exact ((List.pairwise_cons.1 h1).1 b hb).trans hs
    · intro a ha b hb
      unfold dpush at ha
      split at ha
      · exact h3 a ha b (by simp [hb])
      · rcases List.mem_cons.1 ha with rfl | ha
        · exact k1 b hb
        · exact h3 a ha b (by simp [hb])
theorem sorted_dst {l : List (Int × Int)} (h : l.Pairwise (fun a b => ¬ ltP b a)) : ((dst l).reverse).Pairwise ltP := by
  rw [List.pairwise_reverse]
  exact dst_lt l [] List.Pairwise.nil h (by simp)
theorem mem_dst (l : List (Int × Int)) (q : Int × Int) : q ∈ (dst l).reverse ↔ q ∈ l := by
  rw [List.mem_reverse, dst, dst_mem]; simp
theorem stk_tail {m : Int × Int} {l : List (Int × Int)} (h : (m :: l).Pairwise ltP) (hl : l ≠ []) : (stkF (m :: l)).tail ≠ [] := by
  have hb := stk_bot h
  obtain ⟨l', z, e⟩ : ∃ l' z, l = l' ++ [z] := ⟨_, _, (List.dropLast_concat_getLast hl).symm⟩
  obtain ⟨ra, ha⟩ := stk_head (m :: l') z
  have ha : stkF (m :: l) = z :: ra := by rw [e]; exact ha
  rw [ha] at hb ⊢
  intro k
  simp only [List.tail_cons] at k
  subst k
  have : z = m := by simpa using hb
  exact ltP.irrefl m (this ▸ (List.pairwise_cons.1 h).1 z (by rw [e]; simp))
theorem stk_tail_down {m : Int × Int} {l s : List (Int × Int)} (h : s.Pairwise ltP) (e : s.reverse = m :: l) (hl : l ≠ []) : (stkF s.reverse).tail ≠ [] := by
  have hb := stk_bot_down h e
  obtain ⟨l', z, e'⟩ : ∃ l' z, l = l' ++ [z] := ⟨_, _, (List.dropLast_concat_getLast hl).symm⟩
  obtain ⟨ra, ha⟩ := stk_head (m :: l') z
  have ha : stkF s.reverse = z :: ra := by rw [e, e']; exact ha
  rw [ha] at hb ⊢
  intro k
  simp only [List.tail_cons] at k
  subst k
  have hz : z = m := by simpa using hb
  have hp : s.reverse.Pairwise (fun a b => ltP b a) := by rw [List.pairwise_reverse]; exact h
  rw [e] at hp
  exact ltP.irrefl m (hz ▸ (List.pairwise_cons.1 hp).1 z (by rw [e']; simp))
theorem stk_len : ∀ (l st : List (Int × Int)), (l.foldl pushF st).length ≤ l.length + st.length
  | [], st => by simp
  | p :: l, st => by
    rw [List.foldl_cons]
    refine Nat.le_trans (stk_len l _) ?_
    have : ∀ st, (popF st p).length ≤ st.length := by
      intro st
      induction st with
      | nil => exact Nat.le_refl _
      | cons b r ih =>
        rcases r with _ | ⟨a, r⟩
        · exact Nat.le_refl _
        · rw [popF]
          split
          · exact Nat.le_trans ih (by simp)
          · exact Nat.le_refl _
    have h2 := this st
    simp only [pushF, List.length_cons]
    omega
theorem stk_le (l : List (Int × Int)) : (stkF l).tail.length ≤ l.length := by
  have h := stk_len l []
  simp only [List.length_nil, Nat.add_zero] at h
  rw [List.length_tail]
  unfold stkF
  omega
set_option maxRecDepth 100000 in
set_option maxHeartbeats 8000000 in
theorem Hull_any (W : World) (v : Value) (l : List (Int × Int)) (w : World) (hX : Ext W w) (hv : Pts w v l) :
    Calls Try.prog 43 #[v] w fun e w' => ∃ vv r, e = .returned (.tuple #[vv, .int .i64 (huE l)]) ∧ Pts w' vv r ∧ Ext W w' ∧ ((huE l ≠ 0 ∧ r = []) ∨ (huE l = 0 ∧ HullOf l r)) := by
  obtain ⟨a0, cap0, hv1, hv2, hv3, hv4⟩ := id hv
  subst hv1
  have hwin : winB (l.length : Int) 1 200 = !decide (l.length = 0 ∨ 200 < l.length) := by
    unfold winB
    by_cases h : l.length = 0 ∨ 200 < l.length
    · rw [decide_eq_true h]
      rcases h with h | h
      · rw [h]; rfl
      · rw [decide_eq_false (show ¬ (l.length : Int) ≤ 200 by omega)]; simp
    · rw [decide_eq_false h, decide_eq_true (show (1 : Int) ≤ l.length by omega), decide_eq_true (show (l.length : Int) ≤ 200 by omega)]; rfl
  by_cases hbig : l.length = 0 ∨ 200 < l.length
  · have hE : huE l = 2 := by unfold huE; rw [if_pos hbig]
    rw [decide_eq_true hbig] at hwin
    have HW := Lib.hid hwin
    rw [hE]
    clear hv4 hwin hE hbig
    go_enter Try.func43, Try.ntmps43
    go_wp2_with (first | (go_at_call 76; refine (within_any _ _ _ _ _ (Ext.refl _)).mono ?_; rintro en w' ⟨rfl, hY⟩; rw [HW.out]))
    go_ret2
    exact ⟨_, [], rfl, ⟨none, 0, rfl, Nat.le_refl _, by simp [maxLen], .inl rfl⟩, hX.trans hY, .inl ⟨by omega, rfl⟩⟩
  rw [decide_eq_false hbig] at hwin
  have HW := Lib.hid hwin
  obtain ⟨p1, hp1⟩ : ∃ p, l.all okp = p := ⟨_, rfl⟩
  have hE : Hid (huE l = if p1 = true then 0 else 1) := by unfold Hid huE; rw [if_neg hbig, hp1]
  have P1 := Lib.hid hp1
  have hv4' := Lib.hid hv4
  have HB := Lib.hid hbig
  clear hp1 hwin hv4 hbig
  cases p1
  · have hE1 : huE l = 1 := by rw [hE.out]; rfl
    rw [hE1]
    clear hE1
    go_enter Try.func43, Try.ntmps43
    go_wp2_with (first | (go_at_call 76; refine (within_any _ _ _ _ _ (Ext.refl _)).mono ?_; rintro en w' ⟨rfl, hY⟩; rw [HW.out]) | (go_at_call 78; refine (valid_any _ _ l _ (Ext.refl _) (hv.ext hY)).mono ?_; rintro en w2 ⟨rfl, hY2⟩; rw [P1.out]))
    go_ret2
    exact ⟨_, [], rfl, ⟨none, 0, rfl, Nat.le_refl _, by simp [maxLen], .inl rfl⟩, hX.trans (hY.trans hY2), .inl ⟨by omega, rfl⟩⟩
  · have hE1 : huE l = 0 := by rw [hE.out]; rfl
    rw [hE1]
    have hne : l ≠ [] := by
      intro e
      exact HB.out (.inl (by rw [e]; rfl))
    obtain ⟨b, off, e1, _⟩ := hv4'.out.resolve_left hne
    subst e1
    clear hE1 hE
    go_enter Try.func43, Try.ntmps43
    go_wp2_with (first | (go_at_call 76; refine (within_any _ _ _ _ _ (Ext.refl _)).mono ?_; rintro en w' ⟨rfl, hY⟩; rw [HW.out]) | (go_at_call 78; refine (valid_any _ _ l _ (Ext.refl _) (hv.ext hY)).mono ?_; rintro en w2 ⟨rfl, hY2⟩; rw [P1.out]))
    have hY3 := hY.trans hY2
    clear hY
    have hlen : l.length ≤ 200 := by have := HB.out; omega
    have hv0 := hv.ext hY3
    clear hv hv4' hY2
    go_at_call 104
    refine (clone_any _ b off cap0 l _ (Ext.refl _) hv0 hne (by omega)).mono ?_
    rintro en w3 ⟨g, cp, rfl, hc1, hc2, hg, hO3, hR3, _, hX3⟩
    obtain ⟨L, hL⟩ := vp_list l (List.all_eq_true.1 P1.out)
    have hLl : L.length = l.length := by rw [← hL, List.length_map]
    have hLne : L ≠ [] := by intro e; rw [e] at hL; exact hne hL.symm
    clear hv0 hO3
    go_wp2_with fail
    rw [← hLl]
    with_reducible refine (sortPts_any g 0 cp L w3 _ (by rw [hL]; exact hR3) hLne (by omega)).mono ?_
    rintro en w4 ⟨rfl, r, hR4, hperm, hsort⟩
    have hok : Hid (∀ p ∈ r.map (·.1), okp p = true) := by
      intro p hp
      obtain ⟨x, _, rfl⟩ := List.mem_map.1 hp
      exact x.2
    have hso : Hid ((r.map (·.1)).Pairwise (fun a b => ¬ ltP b a)) := List.pairwise_map.2 hsort
    have hpe : Hid ((r.map (·.1)).Perm l) := by
      unfold Hid
      rw [← hL]
      exact hperm.map _
    have hrl : (r.map (·.1)).length = L.length := by rw [List.length_map, hperm.length_eq]
    clear hsort hperm
    generalize r.map (·.1) = R at hR4 hok hso hpe hrl
    rw [← hrl]
    have HRL := Lib.hid hrl
    have HLL := Lib.hid hLl
    have HL := Lib.hid hL
    clear hrl hLl hL hR3 hLne
    go_wp2_with fail
    with_reducible refine (compact_any g 0 cp R w3 _ hR4 (by have := HRL.out; have := HLL.out; omega) (by have := HRL.out; have := HLL.out; omega)).mono ?_
    rintro en w5 ⟨rfl, hR5⟩
    have hsl : (dst R).length = (dst R).reverse.length := by rw [List.length_reverse]
    have hlt : Hid ((dst R).reverse.Pairwise ltP) := sorted_dst hso.out
    have hmem : Hid (∀ q, q ∈ l ↔ q ∈ (dst R).reverse) := by
      intro q
      rw [mem_dst]
      exact hpe.out.mem_iff.symm
    have hz : (dst R).reverse.length ≤ R.length := by
      rw [List.length_reverse]
      have : ∀ (l st : List (Int × Int)), (l.foldl dpush st).length ≤ l.length + st.length := by
        intro l
        induction l with
        | nil => intro st; simp
        | cons p l ih =>
          intro st
          rw [List.foldl_cons]
          refine Nat.le_trans (ih _) ?_
          unfold dpush
          split
          · simp only [List.length_cons]; omega
          · simp only [List.length_cons]; omega
      exact this R []
    rw [hsl]
    clear hsl
    have hoks : Hid (∀ p ∈ (dst R).reverse, okp p = true) := by
      intro p hp
      exact hok.out p ((mem_dst R p).1 hp)
    generalize (dst R).reverse = s at hR5 hlt hmem hz hoks ⊢
    have hsn : s ≠ [] := by
      intro e
      obtain ⟨q, hq⟩ := List.exists_mem_of_ne_nil l hne
      have := (hmem.out q).1 hq
      rw [e] at this
      cases this
    have hs200 : s.length ≤ 200 := by have := HRL.out; have := HLL.out; omega
    have hscp : s.length ≤ cp := by have := HRL.out; have := HLL.out; omega
    have hH : Hid (HullOf l (hullS s)) := (hull_ok hlt.out hsn).congr hmem.out
    have hX5 : Ext w2 w5 := hR5.ext_of hX3 hg
    clear hR4 hok hso hpe HRL HLL HL hz hmem hX3
    have hsz : s.length ≠ 0 := fun e => hsn (List.eq_nil_of_length_eq_zero e)
    by_cases h1 : s.length = 1
    · have H1 := Lib.hid h1
      have hq : Pts w5 (.slice (some ⟨g, 0, none⟩) 1 cp) s := ⟨_, cp, by rw [h1], by omega, hc2, .inr ⟨g, 0, rfl, fun i hi => (hR5.row i hi).1⟩⟩
      rw [h1]
      go_wp2_with fail
      go_ret2
      refine ⟨.slice (some ⟨g, 0, none⟩) 1 cp, s, rfl, hq, hX.trans (hY3.trans hX5), .inr ⟨trivial, ?_⟩⟩
      have := hH.out
      rwa [hullS, if_pos H1.out] at this
    · have hH2 : Hid (HullOf l ((stkF s).tail.reverse ++ (stkF s.reverse).tail.reverse)) := by
        have := hH.out
        rwa [hullS, if_neg h1] at this
      have h1z : ¬ (s.length : Int) = 1 := by omega
      obtain ⟨m, t, hmt⟩ : ∃ m t, s = m :: t := List.exists_cons_of_ne_nil hsn
      have htn : t ≠ [] := by intro e; rw [hmt, e] at h1; simp at h1
      have hA : (stkF s).tail ≠ [] := by
        have := stk_tail (hmt ▸ hlt.out) htn
        rwa [← hmt] at this
      have hB : (stkF s.reverse).tail ≠ [] := by
        obtain ⟨m', t', e⟩ : ∃ m t, s.reverse = m :: t := List.exists_cons_of_ne_nil (by simpa using hsn)
        refine stk_tail_down hlt.out e ?_
        intro k
        have := congrArg List.length e
        rw [k, List.length_reverse] at this
        exact h1 (by simpa using this)
      have lA := stk_le s
      have lB := stk_le s.reverse
      rw [List.length_reverse] at lB
      clear hmt htn hH
      go_wp2_with fail
      with_reducible refine (chain_any _ g 0 cp s w5 (Ext.refl _) hsn hs200 hoks.out (fun i hi => (hR5.row i hi).1)).mono ?_
      rintro en w6 ⟨vA, rfl, hOA, _, hXA⟩
      have hA : (stkF s).tail.reverse ≠ [] := by simpa using hA
      have hB : (stkF s.reverse).tail.reverse ≠ [] := by simpa using hB
      rw [← List.length_reverse] at lA lB
      generalize (stkF s).tail.reverse = A at hOA hA lA hH2
      obtain ⟨gA, cA, rfl, hA1, hA2, hA3, hRA⟩ := Own.rpt hOA hA
      have hPA := hOA.pts
      clear hOA hRA
      go_wp2_with fail
      with_reducible refine (clone_any _ gA 0 cA A w6 (Ext.refl _) hPA hA (by omega)).mono ?_
      rintro en w7 ⟨gL, cL, rfl, hL1, hL2, hL3, hOL, _, _, hX7⟩
      clear hPA
      have hXL : Ext w5 w7 := hXA.trans hX7
      have hR7 := (hR5.ext hXL).re
      obtain ⟨S, hS⟩ := vp_list s hoks.out
      have hSl : S.length = s.length := by rw [← hS, List.length_map]
      have hSn : S ≠ [] := by intro e; rw [e] at hS; exact hsn hS.symm
      have hR7' : RPt w7 g 0 (S.map (·.1)) w7 := by rw [hS]; exact hR7
      have hrev : Hid (S.reverse.map (·.1) = s.reverse) := by unfold Hid; rw [List.map_reverse, hS]
      have hgs : g < w6.heap.size := Nat.lt_of_lt_of_le (hR5.lt hsn) hXA.le
      have hle7 := hX7.le
      clear hS hR7 hX7
      go_wp2_with fail
      rw [← hSl]
      with_reducible refine (revPts_any g 0 cp S w7 w7 hR7' hSn (by omega)).mono ?_
      rintro en w8 ⟨rfl, hR8⟩
      rw [hrev.out] at hR8
      have hx8 : Ext w2 w8 := hR8.ext_of (hX5.trans hXL) hg
      have hOL := hOL.kx hR8.kx hgs
      have hle8 : w6.heap.size ≤ w8.heap.size := Nat.le_trans hle7 hR8.kx.1
      clear hle7
      have hrn : s.reverse ≠ [] := by simpa using hsn
      have hrl : S.length = s.reverse.length := by rw [hSl, List.length_reverse]
      have hro : Hid (∀ p ∈ s.reverse, okp p = true) := fun p hp => hoks.out p (by simpa using hp)
      rw [hrl]
      clear hR7' hSn hrl hSl hR5 hrev
      have hr200 : s.reverse.length ≤ 200 := by rw [List.length_reverse]; exact hs200
      generalize s.reverse = t at hR8 hB lB hH2 hrn hro hr200 ⊢
      go_wp2_with fail
      with_reducible refine (chain_any _ g 0 cp t w8 (Ext.refl _) hrn hr200 hro.out (fun i hi => (hR8.row i hi).1)).mono ?_
      rintro en w9 ⟨vB, rfl, hOB, _, hXB⟩
      have hOL := hOL.ext hXB
      generalize (stkF t).tail.reverse = B at hOB hB lB hH2
      obtain ⟨gB, cB, rfl, hB1, hB2, hB3, hRB⟩ := Own.rpt hOB hB
      clear hOB
      go_wp2_with (at_builtin; refine app_pts rfl (.tmp 30) (.tmp 32) rfl w6.heap.size _ A B rfl hOL gB 0 cB rfl (fun i hi => (hRB.row i hi).1) (by omega) hXB hle8 ?_)
      intro v' w10 ho hext
      go_wp2_with fail
      go_ret2
      exact ⟨v', A ++ B, rfl, ho.pts, hX.trans (hY3.trans (hext w2 (Nat.le_trans hX5.le hXA.le) (hx8.trans hXB))), .inr ⟨trivial, hH2.out⟩⟩
end Go.Proofs.Ytdbhbfmbpldmnaa
