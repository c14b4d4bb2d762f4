import Derived.RangeFuncNested
import Derived.RangeFuncBound
import Derived.RangeFuncCalls
import Derived.RangeFuncLeaves
import Derived.Shelf.Abstract
import Derived.Shelf.RegionOpen
import Derived.WalkKit
import Derived.OwnWalkIn
import Derived.TacticsInMore
import Derived.LoopNIn
import Derived.LoopIn
import Derived.Test.YtdbhbfmbpldmnaaC7
import Derived.Test.YtdbhbfmbpldmnaaH
namespace Go.Proofs.Ytdbhbfmbpldmnaa
open Go.RowKit Go.Shelf
attribute [local go_sem] Oper.semAt_some
/-- the edge that begins at i -/
def edge (l : List (Int × Int)) (i : Nat) : (Int × Int) × (Int × Int) := (l.getD i (0, 0), l.getD ((i + 1) % l.length) (0, 0))
def edgesOf (l : List (Int × Int)) (k : Nat) : List (Fin l.length) := (List.finRange l.length).take k
theorem edgesOf_succ (l : List (Int × Int)) (k : Nat) (h : k < l.length) : edgesOf l (k + 1) = edgesOf l k ++ [⟨k, h⟩] := by
  unfold edgesOf
  rw [List.take_succ_eq_append_getElem (by simpa using h)]
  simp
theorem edgesOf_length (l : List (Int × Int)) (k : Nat) (h : k ≤ l.length) : (edgesOf l k).length = k := by simp [edgesOf, h]
theorem edgesOf_all (l : List (Int × Int)) : edgesOf l l.length = List.finRange l.length := by
  unfold edgesOf
  exact List.take_of_length_le (by simp)
def encE (l : List (Int × Int)) (i : Fin l.length) : Array Value := #[.int .i64 (i.1 : Int), .agg #[.int .i64 (edge l i.1).1.1, .int .i64 (edge l i.1).1.2, .int .i64 (edge l i.1).2.1, .int .i64 (edge l i.1).2.2]]
/-- what a round keeps: the blocks below n₀, and the cell of the boxed list -/
def KpE (n₀ Bs : Nat) (W W' : World) : Prop := Below n₀ W W' ∧ ∀ v, W.cell? ⟨Bs, 0, none⟩ = some v → W'.cell? ⟨Bs, 0, none⟩ = some v
theorem KpE.refl (n₀ Bs : Nat) (W : World) : KpE n₀ Bs W W := ⟨Below.refl _ _, fun _ h => h⟩
theorem KpE.trans {n₀ Bs : Nat} {A B C : World} (h : KpE n₀ Bs A B) (k : KpE n₀ Bs B C) : KpE n₀ Bs A C := ⟨h.1.trans k.1, fun v e => k.2 v (h.2 v e)⟩
theorem KpE.drew {n₀ Bs : Nat} {A B : World} (h : KpE n₀ Bs A B) : KpE n₀ Bs A B.drew := ⟨h.1.drew, fun v e => h.2 v e⟩
theorem KpE.ofExt {n₀ Bs : Nat} {A B : World} (h : Ext A B) (hn : n₀ ≤ A.heap.size) : KpE n₀ Bs A B := ⟨Below.mono h hn, fun _ e => h.cell e⟩
theorem KpE.setCell {n₀ Bs : Nat} {A B : World} (h : KpE n₀ Bs A B) {p : Addr} (hp : n₀ ≤ p.block) (hb : p.block ≠ Bs) (u : Value) : KpE n₀ Bs A (B.setCell p u) :=
  ⟨h.1.setCell hp u, fun v e => (World.cell?_setCell_far _ _ _ _ hb).trans (h.2 v e)⟩
theorem KpE.putObj {n₀ Bs : Nat} (W : World) (l : Nat) (o o' : Obj) (hl : n₀ ≤ l) (hb : l ≠ Bs) (h : W.heap[l]? = some o) : KpE n₀ Bs W (W.putObj l o') :=
  ⟨(Below.refl n₀ W).grown (grownBy_putObj' W l o') (by have := (Array.getElem?_eq_some_iff.1 h).1; omega) (fun k e => by cases e; omega), fun v e => by
    refine (World.cell?_of_block (w := W) ?_).trans e
    exact World.putObj_heap_other hb.symm⟩
def Two (A B : World → Prop) (bb : Bool) (W' : World) : Prop := (bb = true ∧ A W') ∨ (bb = false ∧ B W')
theorem two_ways {A B : World → Prop} {e : Ending} {W' : World} (h : (e = .returned (.bool true) ∧ A W') ∨ (e = .returned (.bool false) ∧ B W')) : ∃ bb, e = .returned (.bool bb) ∧ Two A B bb W' := by
  rcases h with ⟨h, h'⟩ | ⟨h, h'⟩
  · exact ⟨true, h, .inl ⟨rfl, h'⟩⟩
  · exact ⟨false, h, .inr ⟨rfl, h'⟩⟩
set_option maxRecDepth 100000 in
set_option maxHeartbeats 2000000 in
theorem edges1_in (F : Fence) (n : Nat) (hf : F.fn 138) (hro : F.round = none) (hn : 1 ≤ n) (li Bs n₀ b off cap : Nat) (l : List (Int × Int)) (hl : l.length ≤ cap) (hm : cap ≤ maxLen) (hb : b < n₀) (J Jx : List (Fin l.length) → World → Prop) (hJd : ∀ pre W, J pre W → J pre W.drew)
    (hY : ∀ pre x W, J pre W → pre.length < l.length → YieldAt F (n - 1) Try.prog li (encE l x) W fun e W' =>
      (e = .returned (.bool true) ∧ J (pre ++ [x]) W' ∧ KpE n₀ Bs W W') ∨ (e = .returned (.bool false) ∧ Jx (pre ++ [x]) W'))
    (W : World) (hBs : W.cell? ⟨Bs, 0, none⟩ = some (.slice (some ⟨b, off, none⟩) l.length cap))
    (hc : ∀ i, (h : i < l.length) → W.cell? ⟨b, off + i * 2, none⟩ = some (.int .i64 (l[i]).1) ∧ W.cell? ⟨b, off + i * 2 + 1, none⟩ = some (.int .i64 (l[i]).2)) (h0 : J [] W) :
    CallsIn F n Try.prog 138 #[.func (.yield li) #[] #[], .pointer (some ⟨Bs, 0, none⟩)] W fun e W' => (∃ v, e = .returned v) ∧
      ((∃ ys, ys = edgesOf l l.length ∧ J ys W') ∨ (∃ pre, (∃ k, k ≤ l.length ∧ pre = edgesOf l k) ∧ Jx pre W')) := by
  have HC := Lib.hid hc
  clear hc
  unfold maxLen at hm
  refine callsIn_of_wp Try.func138 rfl hf ?_ hro
  simp only [Try.ntmps138, List.size_toArray, List.length_cons, List.length_nil, Nat.reduceAdd, Nat.reduceSub, Array.replicate_succ, Array.replicate_zero, List.push_toArray, List.append_toArray, List.nil_append, List.cons_append]
  gi_wp2
  gi_loopw [3, 6] (fun _ i wr => ∃ k : Nat, k ≤ l.length ∧ i = .int .i64 k ∧ J (edgesOf l k) wr ∧ KpE n₀ Bs W wr)
    (fun _ i _ => l.length - (intOf i).toNat)
  case atStart => exact ⟨0, Nat.zero_le _, rfl, h0, KpE.refl _ _ _⟩
  case round =>
    obtain ⟨k, hk, rfl, hJs, hnx⟩ := hrel
    by_cases hlt : k < l.length
    · have hBs' := hnx.2 _ hBs
      have c1 := (hnx.1.cell (p := ⟨b, off + k * 2, none⟩) hb).trans (HC.out k hlt).1
      have c2 := (hnx.1.cell (p := ⟨b, off + k * 2 + 1, none⟩) hb).trans (HC.out k hlt).2
      obtain ⟨j, hj⟩ : ∃ j, j = (k + 1) % l.length := ⟨_, rfl⟩
      have hlt2 : j < l.length := by rw [hj]; exact Nat.mod_lt _ (by omega)
      have d1 := (hnx.1.cell (p := ⟨b, off + j * 2, none⟩) hb).trans (HC.out _ hlt2).1
      have d2 := (hnx.1.cell (p := ⟨b, off + j * 2 + 1, none⟩) hb).trans (HC.out _ hlt2).2
      clear HC
      have hE : edge l k = (l[k], l[j]) := by unfold edge; rw [← hj]; simp [List.getD, hlt, hlt2]
      obtain ⟨px, py, hp⟩ : ∃ px py, l[k] = (px, py) := ⟨_, _, rfl⟩
      obtain ⟨qx, qy, hq⟩ : ∃ px py, l[j] = (px, py) := ⟨_, _, rfl⟩
      rw [hp] at c1 c2 hE
      rw [hq] at d1 d2 hE
      obtain ⟨fn, tmps, assign, body, hy, hR⟩ := hY _ ⟨k, hlt⟩ wr.drew (hJd _ _ hJs) (by rw [edgesOf_length _ _ hk]; exact hlt)
      simp only [hE, encE] at hy c1 c2 d1 d2
      have HE := Lib.hid hE
      clear hE hp hq
      have hml : l.length ≤ 9223372036854775807 := by omega
      have hz1 : ((l.length : Int) == 0) = false := by rw [beq_eq_false_iff_ne]; omega
      have hz2 : ¬ ((l.length : Int) = 0) := by omega
      have hz4 : ¬ l = [] := by intro e; simp [e] at hlt
      have hz3 : (0 : Int) < (l.length : Int) := by omega
      have hw1 : IntKind.i64.wrap ((k : Int) + 1) = (k : Int) + 1 := IntWalk.i64_in _ (by omega)
      have hw2 : ((k : Int) + 1).tmod (l.length : Int) = (j : Int) := by
        rw [Int.tmod_eq_emod_of_nonneg (by omega), hj]
        simp
      have hj1 : (0 : Int) ≤ (j : Int) := by omega
      have hj2 : (j : Int) < (l.length : Int) := by omega
      clear hj
      gi_wp2
      refine wpIn_region_tail 15 (by kernel_rfl) (by kernel_rfl) (by kernel_rfl) ?_
      simp only [List.take_succ_cons, List.take_zero, List.drop_succ_cons, List.drop_zero]
      change wpStill _ _ wr.drew _ _ _
      repeat still_step
      refine wpStill_nil ?_
      change wpListIn _ _ _ _ _ _ _ wr.drew
      gi_wp2
      refine hR.mono ?_
      rintro e W3 (⟨rfl, hJ3, hk3⟩ | ⟨rfl, hJx3⟩)
      · gi_wp2
        refine ⟨⟨k + 1, by omega, by go_num, by rw [edgesOf_succ _ _ hlt]; exact hJ3, (hnx.drew).trans hk3⟩, by simp [intOf]; omega⟩
      · gi_wp2
        refine bodyPost_ret (results_none rfl _ _ _) rfl ?_
        exact ⟨⟨_, rfl⟩, .inr ⟨_, ⟨k + 1, by omega, (edgesOf_succ _ _ hlt).symm⟩, hJx3⟩⟩
    · obtain rfl : k = l.length := by omega
      gi_wp2
      go_end0
      exact ⟨⟨_, rfl⟩, .inl ⟨_, rfl, hJs⟩⟩
theorem edges_stops (F : Fence) (n : Nat) (hf : F.fn 138) (hro : F.round = none) (hn : 1 ≤ n) (Bs n₀ b off cap : Nat) (l : List (Int × Int)) (hl : l.length ≤ cap) (hm : cap ≤ maxLen) (hb : b < n₀) (w : World) (hn₀ : n₀ ≤ w.heap.size) (hBl : Bs < w.heap.size)
    (hBs : w.cell? ⟨Bs, 0, none⟩ = some (.slice (some ⟨b, off, none⟩) l.length cap))
    (hc : ∀ i, (h : i < l.length) → w.cell? ⟨b, off + i * 2, none⟩ = some (.int .i64 (l[i]).1) ∧ w.cell? ⟨b, off + i * 2 + 1, none⟩ = some (.int .i64 (l[i]).2)) :
    SeqStopsK F n Try.prog 138 #[.pointer (some ⟨Bs, 0, none⟩)] (encE l) (KpE n₀ Bs) (fun ys => ys = edgesOf l l.length) (fun pre => ∃ k, k ≤ l.length ∧ pre = edgesOf l k) l.length w := fun li J Jx W hW hJ _ hY h0 => by
  have hg : ∀ (w : World), w.grownBy w.drew none := fun _ => ⟨rfl, rfl, rfl, Nat.le_refl _, fun _ _ _ => rfl⟩
  exact edges1_in F n hf hro hn li Bs n₀ b off cap l hl hm hb J Jx (fun pre W h => hJ pre W W.drew none h (hg W) (fun r e => by cases e)) hY W ((hW.cell (p := ⟨Bs, 0, none⟩) hBl).trans hBs)
    (fun i hi => ⟨(hW.cell (p := ⟨b, _, none⟩) (by show b < _; omega)).trans (hc i hi).1, (hW.cell (p := ⟨b, _, none⟩) (by show b < _; omega)).trans (hc i hi).2⟩) h0
theorem edges_any (v : Value) (w : World) (a : Option Addr) (len cap : Nat) (hv : v = .slice a len cap) :
    Calls Try.prog 131 #[v] w fun e w' => e = .returned (.func (.func 138) #[] #[.pointer (some ⟨w.heap.size, 0, none⟩)]) ∧ w' = w.alloc (.cells #[v] 39) := by
  subst hv
  go_enter Try.func131, Try.ntmps131
  go_wp2
  go_ret
  exact ⟨rfl, rfl⟩
end Go.Proofs.Ytdbhbfmbpldmnaa
