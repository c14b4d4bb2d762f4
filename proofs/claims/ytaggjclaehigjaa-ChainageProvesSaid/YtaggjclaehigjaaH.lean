/- A method called on a thing, inside the wide fence; the pairs of things that contradict each other; contract of pairs. -/
import Derived.RangeFuncNested
import Derived.RangeFuncBound
import Derived.RangeFuncCalls
import Derived.RangeFuncLeaves
import Derived.Shelf.Abstract
import Derived.Shelf.RegionOpen
import Derived.OwnWalkIn
import Derived.TacticsInMore
import Derived.LoopNIn
import Derived.LoopIn
import Derived.Test.YtaggjclaehigjaaL1
namespace Go.Proofs.Ytaggjclaehigjaa
open Go.RowKit Go.Shelf
attribute [local go_sem] Oper.semAt_some
theorem inv_meth_in {n : Nat} {ops : Array Oper} {rest : List Oper} {o : Oper} {a : Act} {w : World} {Q : Exit → Act → World → Prop} (hgd : Region.wanted o (yielded ops a.tmps) = true) (m : Operand) (nm : String)
    (ho : o.op = .call { callee := .invoke m nm, args := #[], argTypes := #[] }) (T : Nat) (v : Value) (hm : a.eval m = .iface T v) (g : Nat) (h1 : MethAt nm T v g) (hg : Enters g) (r : Value)
    (hc : Calls Try.prog g #[v] w fun e w' => e = .returned r ∧ Ext w w')
    (hK : ∀ w', Ext w w' → wpListIn Fence.wide n Try.prog ops Q rest (a.put o.dst r) w') : wpListIn Fence.wide n Try.prog ops Q (o :: rest) a w := by
  have hg' := hg
  unfold Enters at hg'
  unfold MethAt at h1
  unfold wpListIn
  rw [if_pos hgd]
  unfold Oper.wpIn
  refine ⟨fun _ _ => trivial, ?_⟩
  rw [show o.semAt Fence.wide.round a.eval = execOp a.eval o from rfl]
  simp only [execOp, ho, resolve, invoke, Sem.run_bind, Sem.run_pure, Result.andThen_ok, List.map_toArray, List.map_nil, hm]
  go_simp
  refine ⟨fun h => by simp [Fence.wide] at h, callsIn_wide.2 (hc.mono ?_)⟩
  rintro e w' ⟨rfl, hX⟩
  exact hK w' hX
theorem inv_number_in {n : Nat} {ops : Array Oper} {rest : List Oper} {o : Oper} {a : Act} {w : World} {Q : Exit → Act → World → Prop} (hgd : Region.wanted o (yielded ops a.tmps) = true) (m : Operand) (nm : String)
    (ho : o.op = .call { callee := .invoke m nm, args := #[], argTypes := #[] }) (v : Value) (t : Th) (hm : a.eval m = v) (hv : ThAt w v t) (hn : NameOk nm 168 166 170)
    (hK : ∀ w', Ext w w' → wpListIn Fence.wide n Try.prog ops Q rest (a.put o.dst (.int .i64 t.i)) w') : wpListIn Fence.wide n Try.prog ops Q (o :: rest) a w := by
  rcases hv with ⟨b, x, rfl, h2, rfl⟩ | ⟨x, rfl, rfl⟩ | ⟨b, x, rfl, h2, rfl⟩
  · exact inv_meth_in hgd m nm ho _ _ hm _ (hn.1 b) enters_nu.1 _ (makingnumber b x w) hK
  · exact inv_meth_in hgd m nm ho _ _ hm _ (hn.2.1 x) enters_nu.2.1 _ (pnumber x w) hK
  · exact inv_meth_in hgd m nm ho _ _ hm _ (hn.2.2 b) enters_nu.2.2 _ (repairnumber b x w h2) hK
/-! the pairs, in the order in which they are found -/
def pairF (t u : Four) : Int × Int := (min t.i u.i, max t.i u.i)
def rowPairs (w : Int) (l : List Four) (t : Four) : List (Int × Int) := (l.filter (fun u => clashB w t u)).map (pairF t)
def pairsUp (w : Int) (l : List Four) (k : Nat) : List (Int × Int) := (List.range k).flatMap (fun i => rowPairs w (l.take i) (l.getD i default))
def pairsOf (w : Int) (l : List Four) : List (Int × Int) := pairsUp w l l.length
theorem pairsUp_succ {w : Int} {l : List Four} {k : Nat} (hk : k < l.length) {t : Four} (ht : t = l[k]) : pairsUp w l (k + 1) = pairsUp w l k ++ rowPairs w (l.take k) t := by
  unfold pairsUp
  rw [List.range_succ, List.flatMap_append]
  simp [List.getD, hk, ht]
theorem rowPairs_yes {w : Int} {l : List Four} {t u : Four} {k : Nat} (hk : k < l.length) (hu : u = l[k]) (h : clashB w t u = true) : rowPairs w (l.take (k + 1)) t = rowPairs w (l.take k) t ++ [pairF t u] := by
  unfold rowPairs
  rw [List.take_succ_eq_append_getElem hk, List.filter_append, List.map_append, ← hu]
  simp [h]
theorem rowPairs_no {w : Int} {l : List Four} {t u : Four} {k : Nat} (hk : k < l.length) (hu : u = l[k]) (h : clashB w t u = false) : rowPairs w (l.take (k + 1)) t = rowPairs w (l.take k) t := by
  unfold rowPairs
  rw [List.take_succ_eq_append_getElem hk, List.filter_append, List.map_append, ← hu]
  simp [h]
theorem pairsUp_le {w : Int} {l : List Four} {j k : Nat} (h : j ≤ k) : ∃ r, pairsUp w l k = pairsUp w l j ++ r := by
  induction k with
  | zero => obtain rfl : j = 0 := by omega
            exact ⟨[], by simp⟩
  | succ k ih =>
    by_cases e : j = k + 1
    · subst e; exact ⟨[], by simp⟩
    · obtain ⟨r, hr⟩ := ih (by omega)
      refine ⟨r ++ rowPairs w (l.take k) (l.getD k default), ?_⟩
      unfold pairsUp at hr ⊢
      rw [List.range_succ, List.flatMap_append, hr]
      simp
theorem pairs_prefix {w : Int} {l : List Four} {i k : Nat} (hi : i < l.length) (hk : k ≤ i) : (pairsUp w l i ++ rowPairs w (l.take k) (l.getD i default)) <+: pairsOf w l := by
  have h1 : rowPairs w (l.take k) (l.getD i default) <+: rowPairs w (l.take i) (l.getD i default) := by
    unfold rowPairs
    have : l.take k <+: l.take i := by
      rw [List.prefix_take_iff]; exact ⟨List.take_prefix _ _, by simp; omega⟩
    exact (this.filter _).map _
  obtain ⟨r, hr⟩ := h1
  obtain ⟨r2, hr2⟩ := pairsUp_le (w := w) (l := l) (j := i + 1) (k := l.length) (by omega)
  refine ⟨r ++ r2, ?_⟩
  unfold pairsOf
  rw [hr2, pairsUp_succ (t := l.getD i default) hi (by simp [List.getD, hi]), ← hr]
  simp
/-- what a round keeps: the blocks below n₀, and the block of the boxed spell -/
def KpE (n₀ Bs : Nat) (A B : World) : Prop := Below n₀ A B ∧ ∀ o, A.heap[Bs]? = some o → B.heap[Bs]? = some o
theorem KpE.refl (n₀ Bs : Nat) (W : World) : KpE n₀ Bs W W := ⟨Below.refl _ _, fun _ h => h⟩
theorem KpE.trans {n₀ Bs : Nat} {A B C : World} (h : KpE n₀ Bs A B) (k : KpE n₀ Bs B C) : KpE n₀ Bs A C := ⟨h.1.trans k.1, fun v e => k.2 v (h.2 v e)⟩
theorem KpE.ofExt {n₀ Bs : Nat} {A B : World} (h : Ext A B) (hn : n₀ ≤ A.heap.size) : KpE n₀ Bs A B := ⟨Below.mono h hn, fun _ e => h.block e⟩
theorem KpE.putObj {n₀ Bs : Nat} (W : World) (l : Nat) (o o' : Obj) (hl : n₀ ≤ l) (hb : l ≠ Bs) (h : W.heap[l]? = some o) : KpE n₀ Bs W (W.putObj l o') :=
  ⟨(Below.refl n₀ W).grown (grownBy_putObj' W l o') (by have := (Array.getElem?_eq_some_iff.1 h).1; omega) (fun k e => by cases e; omega), fun v e => by
    exact (World.putObj_heap_other hb.symm).trans e⟩
def encP (p : Int × Int) : Array Value := #[.agg #[.int .i64 p.1, .int .i64 p.2]]
/-- the box of a spell -/
def BoxS (w : World) (b : Nat) (s : SpE) : Prop := w.heap[b]? = some (.cells #[.int .i64 s.lo, .int .i64 s.hi, .int .i64 s.w, .slice s.a s.n s.c] 88 (0, 0))
set_option maxRecDepth 100000 in
set_option maxHeartbeats 4000000 in
theorem pairs1_in (n : Nat) (hn : 1 ≤ n) (li Bs : Nat) (s : SpE) (w0 : World) (hs : SpOk w0 s) (J Jx : List (Int × Int) → World → Prop) (hJd : ∀ pre A B, J pre A → Ext A B → J pre B)
    (hY : ∀ pre x A, J pre A → pre.length < (pairsOf s.w s.fs).length → YieldAt Fence.wide (n - 1) Try.prog li (encP x) A fun e B =>
      (e = .returned (.bool true) ∧ J (pre ++ [x]) B ∧ KpE w0.heap.size Bs A B) ∨ (e = .returned (.bool false) ∧ Jx (pre ++ [x]) B))
    (W : World) (hW : Ext w0 W) (hB : BoxS W Bs s) (h0 : J [] W) :
    CallsIn Fence.wide n Try.prog 123 #[.func (.yield li) #[] #[], .pointer (some ⟨Bs, 0, none⟩)] W fun e W' => (∃ v, e = .returned v) ∧
      ((∃ ys, ys = pairsOf s.w s.fs ∧ J ys W') ∨ (∃ pre, (pre <+: pairsOf s.w s.fs) ∧ Jx pre W')) := by
  obtain ⟨hsn, hsl, hc⟩ := hs.parts
  have HC := Lib.hid hc
  have HS := Lib.hid hs
  have hln := hs.ln
  clear hc hs
  refine callsIn_of_wp Try.func123 rfl trivial ?_ rfl
  simp only [Try.ntmps123, List.size_toArray, List.length_cons, List.length_nil, Nat.reduceAdd, Nat.reduceSub, Array.replicate_succ, Array.replicate_zero, List.push_toArray, List.append_toArray, List.nil_append, List.cons_append]
  have c3 := cell_at hB 3
  simp only [List.getElem?_toArray, List.getElem?_cons_succ, List.getElem?_cons_zero] at c3
  have hfl : s.fs.length = s.L.length := by simp [SpE.fs]
  have hfi : Hid (∀ i, (h : i < s.L.length) → s.fs.getD i default = s.L[i].2.2.f) := fun i h => by simp [SpE.fs, List.getD, h]
  have hfn : ∀ f, Fence.wide.fn f = True := fun _ => rfl
  gi_wp2
  gi_loopw [10] (fun i wr => ∃ k : Nat, k ≤ s.L.length ∧ i = .int .i64 k ∧ J (pairsUp s.w s.fs k) wr ∧ KpE w0.heap.size Bs W wr) (fun i _ => s.L.length - (intOf i).toNat)
  case atStart => exact ⟨0, Nat.zero_le _, rfl, h0, KpE.refl _ _ _⟩
  case round =>
    obtain ⟨k, hk, rfl, hJ, hK⟩ := hrel
    by_cases hlt : k < s.L.length
    · have hE0 : Ext w0 wr := Below.trans hW hK.1
      obtain ⟨b, off, ha, hcl⟩ := HC.out.resolve_left (fun e => by rw [e] at hlt; simp at hlt)
      have hB1 := hK.2 _ hB
      have e3 := cell_at hB1 3
      simp only [List.getElem?_toArray, List.getElem?_cons_succ, List.getElem?_cons_zero, ha] at e3
      obtain ⟨x, hx⟩ : ∃ x, x = s.L[k] := ⟨_, rfl⟩
      have cx : wr.cell? ⟨b, off + k, none⟩ = some (.iface x.1 x.2.1) := by rw [hx]; exact hE0.cell (hcl k hlt)
      have hkz : (0 : Int) ≤ (k : Int) := by omega
      have hkc : (k : Int) ≤ (s.c : Int) := by omega
      have hkl : (k : Int) < (s.L.length : Int) := by omega
      have HX := Lib.hid hx
      clear hx
      rw [ha]
      gi_wp2
      obtain ⟨wo, rfl⟩ : ∃ wo, wo = wr := ⟨_, rfl⟩
      gi_loopw [20] (fun j wi => ∃ m : Nat, m ≤ k ∧ j = .int .i64 m ∧ J (pairsUp s.w s.fs k ++ rowPairs s.w (s.fs.take m) x.2.2.f) wi ∧ KpE w0.heap.size Bs W wi) (fun j _ => k - (intOf j).toNat)
      case atStart => exact ⟨0, Nat.zero_le _, rfl, by simpa [rowPairs] using hJ, hK⟩
      case round =>
        clear hJ hE0 hB1 e3 cx
        obtain ⟨m, hm, rfl, hJ, hK⟩ := hrel
        by_cases hlm : m < k
        · have hE0 : Ext w0 wr := Below.trans hW hK.1
          have hB1 := hK.2 _ hB
          have e0 := cell_at hB1 0
          have e1 := cell_at hB1 1
          have e2 := cell_at hB1 2
          have e3 := cell_at hB1 3
          simp only [List.getElem?_toArray, List.getElem?_cons_succ, List.getElem?_cons_zero, ha] at e0 e1 e2 e3
          obtain ⟨y, hy⟩ : ∃ y, y = s.L[m] := ⟨_, rfl⟩
          have cy : wr.cell? ⟨b, off + m, none⟩ = some (.iface y.1 y.2.1) := by rw [hy]; exact hE0.cell (hcl m (by omega))
          have hym : y ∈ s.L := by rw [hy]; exact List.getElem_mem (by omega)
          have hxm : x ∈ s.L := by rw [HX.out]; exact List.getElem_mem hlt
          have hAx : ThAt wr (.iface x.1 x.2.1) x.2.2 := (HS.out.el x hxm).ext hE0
          have hAy : ThAt wr (.iface y.1 y.2.1) y.2.2 := (HS.out.el y hym).ext hE0
          have hOx := HS.out.ok x hxm
          have hOy := HS.out.ok y hym
          have HCON := Lib.hid (contradict_any wr s _ _ _ _ wr (Ext.refl _) hAx hAy hOx hOy HS.out.we.1 HS.out.we.2)
          have hmz : (m : Int) < (k : Int) := by omega
          have hlf : m < s.fs.length := by rw [hfl]; omega
          have hyf : y.2.2.f = s.fs[m] := by have := hfi.out m (by omega); rw [← hy] at this; rw [← this]; simp [List.getD, hlf]
          clear hy
          have HAX := Lib.hid hAx
          have HAY := Lib.hid hAy
          clear hAx hAy
          cases hcb : clashB s.w x.2.2.f y.2.2.f with
          | false =>
            have HN := Lib.hid (rowPairs_no (t := x.2.2.f) hlf hyf hcb)
            rw [hcb] at HCON
            clear hcb hyf
            unfold SpE.val at HCON
            rw [ha, hsn] at HCON
            gi_wp2_with (gi_at_call 124; with_reducible refine (callsIn_wide.2 HCON.out).mono ?_; rintro e w1 ⟨rfl, hX1⟩)
            refine ⟨⟨m + 1, by omega, by go_num, by rw [HN.out]; exact hJd _ _ _ hJ hX1, hK.trans (KpE.ofExt hX1 hE0.le)⟩, by simp [intOf]; omega⟩
          | true =>
            have HN := Lib.hid (rowPairs_yes (t := x.2.2.f) hlf hyf hcb)
            have HLT : Hid ((pairsUp s.w s.fs k ++ rowPairs s.w (s.fs.take m) x.2.2.f).length < (pairsOf s.w s.fs).length) := by
              have h := (pairs_prefix (w := s.w) (l := s.fs) (i := k) (k := m + 1) (by rw [hfl]; exact hlt) (by omega)).length_le
              rw [hfi.out k hlt, ← HX.out, HN.out] at h
              show _ < _
              simp only [List.length_append, List.length_singleton] at h ⊢
              omega
            have HPF := Lib.hid (pairs_prefix (w := s.w) (l := s.fs) (i := k) (k := m + 1) (by rw [hfl]; exact hlt) (by omega))
            rw [hcb] at HCON
            clear hcb hyf
            unfold SpE.val at HCON
            rw [ha, hsn] at HCON
            have hmin := ite_min
            have hmax := ite_max
            gi_wp2_with (first
              | (gi_at_call 124; with_reducible refine (callsIn_wide.2 HCON.out).mono ?_; rintro e w1 ⟨rfl, hX1⟩)
              | (refine inv_number_in (by rfl) (.tmp 30) _ rfl _ _ rfl (HAX.out.ext hX1) ⟨fun _ _ _ => by kernel_rfl, fun _ _ _ => by kernel_rfl, fun _ _ _ => by kernel_rfl⟩ ?_; intro w2 hX2; have hX2 := hX1.trans hX2)
              | (refine inv_number_in (by rfl) (.tmp 32) _ rfl _ _ rfl (HAY.out.ext hX2) ⟨fun _ _ _ => by kernel_rfl, fun _ _ _ => by kernel_rfl, fun _ _ _ => by kernel_rfl⟩ ?_; intro w3 hX3; have hX3 := hX2.trans hX3)
              | (refine inv_number_in (by rfl) (.tmp 35) _ rfl _ _ rfl (HAX.out.ext hX3) ⟨fun _ _ _ => by kernel_rfl, fun _ _ _ => by kernel_rfl, fun _ _ _ => by kernel_rfl⟩ ?_; intro w4 hX4; have hX4 := hX3.trans hX4)
              | (refine inv_number_in (by rfl) (.tmp 37) _ rfl _ _ rfl (HAY.out.ext hX4) ⟨fun _ _ _ => by kernel_rfl, fun _ _ _ => by kernel_rfl, fun _ _ _ => by kernel_rfl⟩ ?_; intro w5 hX5; have hX5 := hX4.trans hX5; obtain ⟨fn, tmps, assign, body, hy, hR⟩ := hY _ (pairF x.2.2.f y.2.2.f) w5 (hJd _ _ _ hJ hX5) HLT.out; simp only [encP, pairF, Th.f] at hy))
            refine hR.mono ?_
            rintro e W3 (⟨rfl, hJ3, hk3⟩ | ⟨rfl, hJx3⟩)
            · gi_wp2
              refine ⟨⟨m + 1, by omega, by go_num, ?_, (hK.trans (KpE.ofExt hX5 hE0.le)).trans hk3⟩, by simp [intOf]; omega⟩
              rw [HN.out, ← List.append_assoc]
              exact hJ3
            · gi_wp2
              refine bodyPost_ret (results_none rfl _ _ _) rfl ?_
              refine ⟨⟨_, rfl⟩, .inr ⟨_, ?_, hJx3⟩⟩
              have := HPF.out
              rw [hfi.out k hlt, ← HX.out, HN.out, ← List.append_assoc] at this
              exact this
        · obtain rfl : m = k := by omega
          have HU := Lib.hid (pairsUp_succ (w := s.w) (l := s.fs) (k := m) (by rw [hfl]; exact hlt) (t := x.2.2.f) (by have h1 : m < s.fs.length := (by rw [hfl]; exact hlt); have := hfi.out m hlt; rw [← HX.out] at this; rw [← this]; simp [List.getD, h1]))
          gi_wp2
          refine ⟨⟨m + 1, by omega, by go_num, by rw [HU.out]; exact hJ, hK⟩, by simp [intOf]; omega⟩
    · obtain rfl : k = s.L.length := by omega
      gi_wp2
      go_end0
      exact ⟨⟨_, rfl⟩, .inl ⟨_, rfl, by unfold pairsOf; rw [hfl]; exact hJ⟩⟩
theorem pairs_stops (n : Nat) (hn : 1 ≤ n) (Bs : Nat) (s : SpE) (w0 w : World) (hs : SpOk w0 s) (hW : Ext w0 w) (hB : BoxS w Bs s) :
    SeqStopsK Fence.wide n Try.prog 123 #[.pointer (some ⟨Bs, 0, none⟩)] encP (KpE w0.heap.size Bs) (fun ys => ys = pairsOf s.w s.fs) (fun pre => pre <+: pairsOf s.w s.fs) (pairsOf s.w s.fs).length w := fun li J Jx W hw hJ _ hY h0 => by
  have hE : Ext w W := hw
  exact pairs1_in n hn li Bs s w0 hs J Jx (fun pre A B h x => hJ pre A B none h ⟨x.os, x.tape, x.output, x.size, fun b hb _ => Below.block x b hb⟩ (fun r e => by cases e)) hY W (hW.trans hE) (hE.block hB) h0
theorem pairs_any (s : SpE) (w : World) :
    Calls Try.prog 102 #[s.val] w fun e w' => e = .returned (.func (.func 123) #[] #[.pointer (some ⟨w.heap.size, 0, none⟩)]) ∧ w' = w.alloc (.cells #[.int .i64 s.lo, .int .i64 s.hi, .int .i64 s.w, .slice s.a s.n s.c] 88) := by
  unfold SpE.val
  go_enter Try.func102, Try.ntmps102
  go_wp2
  go_ret
  exact ⟨rfl, rfl⟩
end Go.Proofs.Ytaggjclaehigjaa
