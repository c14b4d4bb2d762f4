/- Contracts of the statements' helpers box, SamePoints, SameInts. A hull and an order are unique; closed facts of boxes. Contract of the statements' helper boxes. -/
import Derived.Test.YtdbhbfmbpldmnaaUU
import Derived.Test.YtdbhbfmbpldmnaaTT
import Derived.Test.YtdbhbfmbpldmnaaD8
import Derived.Test.YtdbhbfmbpldmnaaX7
import Derived.Test.YtdbhbfmbpldmnaaX8
namespace Go.Proofs.Ytdbhbfmbpldmnaa
open Go.RowKit Go.Sort
set_option maxRecDepth 100000 in
set_option maxHeartbeats 4000000 in
theorem box_any (W : World) (a b c d : Int) (w : World) (hX : Ext W w) :
    Calls Try.prog 103 #[.int .i64 a, .int .i64 b, .int .i64 c, .int .i64 d] w fun e w' => e = .returned (bxV a b c d) ∧ Ext W w' := by
  go_enter Try.func103, Try.ntmps103
  go_wp2
  exact bodyPost_ret (v := bxV a b c d) (by simp [results, Try.f103, go_sem]) rfl ⟨rfl, by repeat (first | assumption | refine Ext.alloc ?_ _ | refine Ext.setCell ?_ (by simp; exact hX.le) _)⟩
theorem take_eq_succ {α : Type} {l m : List α} {i : Nat} (h : l.take i = m.take i) (h1 : i < l.length) (h2 : i < m.length) (e : l[i] = m[i]) : l.take (i + 1) = m.take (i + 1) := by
  rw [List.take_succ_eq_append_getElem h1, List.take_succ_eq_append_getElem h2, h, e]
set_option maxRecDepth 100000 in
set_option maxHeartbeats 4000000 in
theorem samePts_any (W : World) (v u : Value) (l m : List (Int × Int)) (w : World) (hX : Ext W w) (hv : Pts w v l) (hu : Pts w u m) :
    Calls Try.prog 47 #[v, u] w fun e w' => e = .returned (.bool (decide (l = m))) ∧ Ext W w' := by
  obtain ⟨a, ca, rfl, _, hma, hl⟩ := hv
  obtain ⟨b, cb, rfl, _, hmb, hm⟩ := hu
  have hbd : l.length ≤ maxLen := by omega
  simp only [maxLen] at hbd
  by_cases hne : l.length = m.length
  · have HL := Lib.hid hl
    have HM := Lib.hid hm
    have HN := Lib.hid hne
    rw [← hne]
    clear hl hm hne hma hmb
    go_enter Try.func47, Try.ntmps47
    go_wp2_with fail
    go_loopw [5] (fun x wr => ∃ i : Nat, x = .int .i64 i ∧ i ≤ l.length ∧ Hid (l.take i = m.take i) ∧ Ext w wr) (fun x _ => l.length - (intOf x).toNat)
    case atStart => exact ⟨0, rfl, Nat.zero_le _, (show _ = _ from rfl), Ext.refl _⟩
    case round =>
      obtain ⟨i, rfl, hi, HT, hx⟩ := hrel
      by_cases hlt : i < l.length
      · have hltz : (i : Int) < (l.length : Int) := by omega
        have hltm : i < m.length := by have := HN.out; omega
        obtain ⟨b1, o1, e1, hc1⟩ := HL.out.resolve_left (by intro e; rw [e] at hlt; simp at hlt)
        obtain ⟨b2, o2, e2, hc2⟩ := HM.out.resolve_left (by intro e; rw [e] at hltm; simp at hltm)
        subst e1 e2
        obtain ⟨px, py, hp⟩ : ∃ x y, l[i] = (x, y) := ⟨_, _, rfl⟩
        obtain ⟨qx, qy, hq⟩ : ∃ x y, m[i] = (x, y) := ⟨_, _, rfl⟩
        have k0 := hx.cell (hc1 i hlt).1
        have k1 := hx.cell (hc1 i hlt).2
        have k2 := hx.cell (hc2 i hltm).1
        have k3 := hx.cell (hc2 i hltm).2
        rw [hp] at k0 k1
        rw [hq] at k2 k3
        simp only at k0 k1 k2 k3
        have he := run_neq_pt px py qx qy
        have HP := Lib.hid hp
        have HQ := Lib.hid hq
        clear hp hq hc1 hc2 HL HM
        by_cases heq : px = qx ∧ py = qy
        · rw [decide_eq_true heq] at he
          have HE := Lib.hid heq
          clear heq
          go_wp2_with fail
          have mixed : Try.prog.follows .mixedOrders = true := by kernel_rfl
          go_big_region_o
          clear mixed
          go_wp2
          go_round
          case rel => exact ⟨i + 1, by go_num, by omega, (by unfold Hid; exact take_eq_succ HT.out hlt hltm (by rw [HP.out, HQ.out, HE.out.1, HE.out.2])), hx.drew⟩
          case measure => simp [intOf]; omega
        · rw [decide_eq_false heq] at he
          have HD : Hid (decide (l = m) = false) := by
            unfold Hid
            rw [decide_eq_false_iff_not]
            intro e
            subst e
            have h1 := HP.out
            rw [HQ.out] at h1
            simp only [Prod.mk.injEq] at h1
            exact heq ⟨h1.1.symm, h1.2.symm⟩
          have HE := Lib.hid heq
          clear heq
          go_wp2_with fail
          have mixed : Try.prog.follows .mixedOrders = true := by kernel_rfl
          go_big_region_o
          clear mixed
          go_wp2
          go_ret
          exact ⟨by rw [HD.out]; rfl, hX.trans hx.drew⟩
      · obtain rfl : i = l.length := by omega
        have HD : Hid (decide (l = m) = true) := by
          unfold Hid
          rw [decide_eq_true_eq]
          have := HT.out
          rwa [List.take_length, HN.out, List.take_length] at this
        go_wp2_with fail
        go_ret
        exact ⟨by rw [HD.out]; rfl, hX.trans hx⟩
  · have hD : decide (l = m) = false := decide_eq_false (fun e => hne (by rw [e]))
    rw [hD]
    have hz : ¬ (l.length : Int) = (m.length : Int) := by omega
    clear hl hm hD
    go_enter Try.func47, Try.ntmps47
    go_wp2_with fail
    go_ret
    exact ⟨rfl, hX⟩
set_option maxRecDepth 100000 in
set_option maxHeartbeats 4000000 in
theorem sameInts_any (W : World) (v u : Value) (l m : List Nat) (w : World) (hX : Ext W w) (hv : Ints w v l) (hu : Ints w u m) :
    Calls Try.prog 48 #[v, u] w fun e w' => e = .returned (.bool (decide (l = m))) ∧ Ext W w' := by
  obtain ⟨a, ca, rfl, _, hma, hl⟩ := hv
  obtain ⟨b, cb, rfl, _, hmb, hm⟩ := hu
  have hbd : l.length ≤ maxLen := by omega
  simp only [maxLen] at hbd
  by_cases hne : l.length = m.length
  · have HL := Lib.hid hl
    have HM := Lib.hid hm
    have HN := Lib.hid hne
    rw [← hne]
    clear hl hm hne hma hmb
    go_enter Try.func48, Try.ntmps48
    go_wp2_with fail
    go_loopw [5] (fun x wr => ∃ i : Nat, x = .int .i64 i ∧ i ≤ l.length ∧ Hid (l.take i = m.take i) ∧ Ext w wr) (fun x _ => l.length - (intOf x).toNat)
    case atStart => exact ⟨0, rfl, Nat.zero_le _, (show _ = _ from rfl), Ext.refl _⟩
    case round =>
      obtain ⟨i, rfl, hi, HT, hx⟩ := hrel
      by_cases hlt : i < l.length
      · have hltz : (i : Int) < (l.length : Int) := by omega
        have hltm : i < m.length := by have := HN.out; omega
        obtain ⟨b1, o1, e1, hc1⟩ := HL.out.resolve_left (by intro e; rw [e] at hlt; simp at hlt)
        obtain ⟨b2, o2, e2, hc2⟩ := HM.out.resolve_left (by intro e; rw [e] at hltm; simp at hltm)
        subst e1 e2
        obtain ⟨p, hp⟩ : ∃ x, l[i] = x := ⟨_, rfl⟩
        obtain ⟨q, hq⟩ : ∃ x, m[i] = x := ⟨_, rfl⟩
        have k0 := hx.cell (hc1 i hlt)
        have k2 := hx.cell (hc2 i hltm)
        rw [hp] at k0
        rw [hq] at k2
        have HP := Lib.hid hp
        have HQ := Lib.hid hq
        clear hp hq hc1 hc2 HL HM
        by_cases heq : p = q
        · subst heq
          go_wp2_with fail
          have mixed : Try.prog.follows .mixedOrders = true := by kernel_rfl
          go_big_region_o
          clear mixed
          go_wp2
          go_round
          case rel => exact ⟨i + 1, by go_num, by omega, (by unfold Hid; exact take_eq_succ HT.out hlt hltm (by rw [HP.out, HQ.out])), hx.drew⟩
          case measure => simp [intOf]; omega
        · have HD : Hid (decide (l = m) = false) := by
            unfold Hid
            rw [decide_eq_false_iff_not]
            intro e
            subst e
            have h1 := HP.out
            rw [HQ.out] at h1
            exact heq h1.symm
          have heqz : ¬ (p : Int) = (q : Int) := by omega
          have HE := Lib.hid heq
          clear heq
          go_wp2_with fail
          have mixed : Try.prog.follows .mixedOrders = true := by kernel_rfl
          go_big_region_o
          clear mixed
          go_wp2
          go_ret
          exact ⟨by rw [HD.out]; rfl, hX.trans hx.drew⟩
      · obtain rfl : i = l.length := by omega
        have HD : Hid (decide (l = m) = true) := by
          unfold Hid
          rw [decide_eq_true_eq]
          have := HT.out
          rwa [List.take_length, HN.out, List.take_length] at this
        go_wp2_with fail
        go_ret
        exact ⟨by rw [HD.out]; rfl, hX.trans hx⟩
  · have hD : decide (l = m) = false := decide_eq_false (fun e => hne (by rw [e]))
    rw [hD]
    have hz : ¬ (l.length : Int) = (m.length : Int) := by omega
    clear hl hm hD
    go_enter Try.func48, Try.ntmps48
    go_wp2_with fail
    go_ret
    exact ⟨rfl, hX⟩
end Go.Proofs.Ytdbhbfmbpldmnaa
namespace Go.Proofs.Ytdbhbfmbpldmnaa
open Go.RowKit Go.Sort
theorem Wrap.uniq {l : List (Int × Int)} {a b c : Int × Int} (h : Wrap l a b) (k : Wrap l a c) : b = c := by
  rcases h.2.2 c k.1 k.2.1 with e | h2 | ⟨h2, h3, _⟩
  · exact e.symm
  · rcases k.2.2 b h.1 h.2.1 with e | k2 | ⟨k2, _⟩
    · exact e
    · rw [tw_swap] at k2; omega
    · rw [tw_swap] at k2; omega
  · rcases k.2.2 b h.1 h.2.1 with e | k2 | ⟨k2, k3, _⟩
    · exact e
    · rw [tw_swap] at k2; omega
    · omega
theorem wrap_path {l : List (Int × Int)} {h : Int × Int} : ∀ (t t' : List (Int × Int)) (a : Int × Int), Cons2 (Wrap l) (a :: t ++ [h]) → Cons2 (Wrap l) (a :: t' ++ [h]) → (∀ x ∈ t, x ≠ h) → (∀ x ∈ t', x ≠ h) → t = t'
  | [], [], _, _, _, _, _ => rfl
  | [], y :: r, _, c, c', _, n' => absurd (Wrap.uniq c'.1 c.1) (n' y (by simp))
  | x :: r, [], _, c, c', n, _ => absurd (Wrap.uniq c.1 c'.1) (n x (by simp))
  | x :: r, y :: r', _, c, c', n, n' => by
    obtain rfl := Wrap.uniq c.1 c'.1
    rw [wrap_path r r' x c.2 c'.2 (fun z hz => n z (by simp [hz])) (fun z hz => n' z (by simp [hz]))]
theorem HullOf.uniq {l H K : List (Int × Int)} (h : HullOf l H) (k : HullOf l K) : H = K := by
  obtain ⟨a, t, rfl, h1, h2, h3, h4⟩ := h
  obtain ⟨b, s, rfl, k1, k2, k3, k4⟩ := k
  have e : a = b := by
    rcases Classical.em (a = b) with e | e
    · exact e
    · exact absurd (ltP_total (k2 a h1) (fun c => e c.symm)) (h2 b k1)
  subst e
  by_cases ht : t = []
  · by_cases hs : s = []
    · rw [ht, hs]
    · obtain ⟨y, r, e⟩ := List.exists_cons_of_ne_nil hs
      have c := (k4 hs).1
      rw [e] at c
      have w : Wrap l a y := c.1
      exact absurd (h3 ht y w.1) w.2.1
  · by_cases hs : s = []
    · obtain ⟨y, r, e⟩ := List.exists_cons_of_ne_nil ht
      have c := (h4 ht).1
      rw [e] at c
      have w : Wrap l a y := c.1
      exact absurd (k3 hs y w.1) w.2.1
    · rw [wrap_path t s a (h4 ht).1 (k4 hs).1 (h4 ht).2 (k4 hs).2]
theorem perm_sorted {α : Type} {R : α → α → Prop} (anti : ∀ a b, R a b → R b a → a = b) : ∀ (l m : List α), l.Perm m → l.Pairwise R → m.Pairwise R → l = m
  | [], m, h, _, _ => h.nil_eq
  | a :: l, [], h, _, _ => absurd h.symm.nil_eq (by simp)
  | a :: l, b :: m, h, hl, hm => by
    have e : a = b := by
      have ha : a ∈ b :: m := h.mem_iff.1 (by simp)
      have hb : b ∈ a :: l := h.mem_iff.2 (by simp)
      rcases List.mem_cons.1 ha with e | ha
      · exact e
      · rcases List.mem_cons.1 hb with e | hb
        · exact e.symm
        · exact anti a b ((List.pairwise_cons.1 hl).1 b hb) ((List.pairwise_cons.1 hm).1 a ha)
    subst e
    rw [perm_sorted anti l m h.cons_inv (List.pairwise_cons.1 hl).2 (List.pairwise_cons.1 hm).2]
theorem ArS.uniq {o : Int × Int} {l : List (Int × Int)} {r s : List Nat} (h : ArS o l r) (k : ArS o l s) : r = s := by
  refine perm_sorted ?_ r s (h.1.trans k.1.symm) h.2 k.2
  intro a b h1 h2
  simp only [lt2, id] at h1 h2
  generalize (ltOf fun i k : Nat => cfZ o (l.getD i (0, 0)) (l.getD k (0, 0))) a b = x at h1 h2
  generalize (ltOf fun i k : Nat => cfZ o (l.getD i (0, 0)) (l.getD k (0, 0))) b a = y at h1 h2
  cases x <;> cases y <;> simp at h1 h2 <;> omega
abbrev l5 : List (Int × Int) := [(2, 1), (0, 0), (4, 0), (2, 0), (0, 3)]
abbrev l4 : List (Int × Int) := [(0, 1), (2, 0), (1, 0), (-1, -1)]
theorem bx1 : huE l5 = 0 := by decide +kernel
theorem bx2 : HullOf l5 [(0, 0), (4, 0), (0, 3)] := by
  refine ⟨(0, 0), [(4, 0), (0, 3)], rfl, by decide, by unfold ltP; decide +kernel, by simp, fun _ => ⟨?_, by decide⟩⟩
  refine ⟨?_, ?_, ?_, trivial⟩ <;> (unfold Wrap; decide +kernel)
theorem bx3 : arE (0, 0) l4 = 0 := by decide +kernel
theorem bx4 : ArS (0, 0) l4 [2, 1, 0, 3] := by
  unfold ArS lt2 ltOf
  decide +kernel
theorem bx5 : growR 0 2 0 0 3 = ((-3, 5, -3, 3), true) := by decide +kernel
theorem bx6 : cutR 0 3 5 9 = (((0, 3, 5, 7), (0, 3, 8, 9)), true) := by decide +kernel
theorem bx7 : spreadR 0 0 0 0 4 4 0 0 1 2 (-1) 3 = ((-4, 12), true) := by decide +kernel
theorem bx8 : distsR 0 1 0 1 3 4 0 5 = ((4, 41), true) := by decide +kernel
end Go.Proofs.Ytdbhbfmbpldmnaa
namespace Go.Proofs.Ytdbhbfmbpldmnaa
open Go.RowKit Go.Sort
theorem Ints_new (w : World) (T : Nat) (l : List Nat) (cs : Array Value) (hcs : cs = (l.map fun n : Nat => Value.int .i64 (n : Int)).toArray) (h : l.length ≤ maxLen) : Ints (w.alloc (.cells cs T)) (.slice (some ⟨w.heap.size, 0, none⟩) l.length l.length) l := by
  refine ⟨_, _, rfl, Nat.le_refl _, h, .inr ⟨_, _, rfl, fun i hi => ?_⟩⟩
  subst hcs
  rw [cell_new]
  simp [hi]
theorem eqA (w : World) : (binOp .eql 52 (bxV (-3) 5 (-3) 3) (bxV (-3) 5 (-3) 3)).run Try.prog w = .ok (.bool true) w := by kernel_rfl
theorem eqB (w : World) : (binOp .eql 52 (bxV 0 3 5 7) (bxV 0 3 5 7)).run Try.prog w = .ok (.bool true) w := by kernel_rfl
theorem eqC (w : World) : (binOp .eql 52 (bxV 0 3 8 9) (bxV 0 3 8 9)).run Try.prog w = .ok (.bool true) w := by kernel_rfl
theorem eqD (w : World) : (binOp .eql 50 (.agg #[.int .i64 (-4), .int .i64 12]) (.agg #[.int .i64 (-4), .int .i64 12])).run Try.prog w = .ok (.bool true) w := by kernel_rfl
theorem eqE (w : World) : (binOp .eql 50 (.agg #[.int .i64 4, .int .i64 41]) (.agg #[.int .i64 4, .int .i64 41])).run Try.prog w = .ok (.bool true) w := by kernel_rfl
set_option maxRecDepth 100000 in
set_option maxHeartbeats 16000000 in
theorem boxes_any (W : World) (w : World) (hX : Ext W w) :
    Calls Try.prog 42 #[] w fun e w' => e = .returned (.bool true) ∧ Ext W w' := by
  go_enter Try.func42, Try.ntmps42
  go_wp2_with (go_at_call 74; with_reducible refine (at_any W _ _ _ (by assumption)).mono ?_; rintro e w1 ⟨rfl, hX⟩)
  refine (Hull_any W _ l5 _ (hX.alloc _) (Pts_mk rfl rfl rfl (by simp [maxLen]))).mono ?_
  rintro e w2 ⟨vh, H, rfl, hh, hX2, hr⟩
  rcases hr with ⟨h1, _⟩ | ⟨_, hr⟩
  · exact absurd bx1 h1
  obtain rfl := hr.uniq bx2
  rw [bx1]
  clear hr hX
  have hX := Ext.refl w2
  go_wp2_with (go_at_call 74; with_reducible refine (at_any w2 _ _ _ (by assumption)).mono ?_; rintro e w1 ⟨rfl, hX⟩)
  refine (Around_any w2 _ 0 0 l4 _ (hX.alloc _) (Pts_mk rfl rfl rfl (by simp [maxLen]))).mono ?_
  rintro e w3 ⟨va, r, rfl, ha, hX3, hr⟩
  rcases hr with ⟨h1, _⟩ | ⟨_, hr⟩
  · exact absurd bx3 h1
  obtain rfl := hr.uniq bx4
  rw [bx3]
  replace hh := hh.ext hX3
  have hW := hX2.trans hX3
  clear hr hX hX2 hX3
  have hX := Ext.refl w3
  go_wp2_with (go_at_call 103; with_reducible refine (box_any w3 _ _ _ _ _ (by assumption)).mono ?_; rintro e w1 ⟨rfl, hX⟩)
  with_reducible refine (Grow_any w3 _ _ _ _ _ _ (by assumption)).mono ?_
  rintro e w4 ⟨rfl, hX⟩
  rw [bx5]
  go_wp2_with fail
  have bA := BoxN.new w4 52 (bxC (-3) 5 (-3) 3)
  replace hX := hX.alloc (.cells (bxC (-3) 5 (-3) 3) 52)
  change Calls _ _ _ (w4.alloc (.cells (bxC (-3) 5 (-3) 3) 52)) _
  generalize w4.alloc (.cells (bxC (-3) 5 (-3) 3) 52) = w5 at hX bA ⊢
  generalize w4.heap.size = A at bA ⊢
  replace hh := hh.ext hX
  replace ha := ha.ext hX
  replace hW := hW.trans hX
  clear hX
  have hX := Ext.refl w5
  go_wp2_with (go_at_call 103; with_reducible refine (box_any w5 _ _ _ _ _ (by assumption)).mono ?_; rintro e w1 ⟨rfl, hX⟩)
  with_reducible refine (Cut_any w5 _ _ _ _ _ (by assumption)).mono ?_
  rintro e w6 ⟨rfl, hX⟩
  rw [bx6]
  go_wp2_with fail
  have bB := (BoxN.new w6 52 (bxC 0 3 5 7)).ext ((Ext.refl _).alloc (.cells (bxC 0 3 8 9) 52))
  have bC := BoxN.new (w6.alloc (.cells (bxC 0 3 5 7) 52)) 52 (bxC 0 3 8 9)
  replace hX := (hX.alloc (.cells (bxC 0 3 5 7) 52)).alloc (.cells (bxC 0 3 8 9) 52)
  rw [World.size_alloc] at bC
  change Calls _ _ _ ((w6.alloc (.cells (bxC 0 3 5 7) 52)).alloc (.cells (bxC 0 3 8 9) 52)) _
  generalize (w6.alloc (.cells (bxC 0 3 5 7) 52)).alloc (.cells (bxC 0 3 8 9) 52) = w7 at hX bB bC ⊢
  generalize w6.heap.size + 1 = C at bC ⊢
  generalize w6.heap.size = B at bB ⊢
  replace hh := hh.ext hX
  replace ha := ha.ext hX
  replace hW := hW.trans hX
  replace bA := bA.ext hX
  clear hX
  have hX := Ext.refl w7
  go_wp2_with (go_at_call 103; with_reducible refine (box_any w7 _ _ _ _ _ (by assumption)).mono ?_; rintro e w1 ⟨rfl, hX⟩)
  with_reducible refine (Spread_any w7 _ _ _ _ _ _ _ _ _ _ _ _ _ (by assumption)).mono ?_
  rintro e w8 ⟨rfl, hX⟩
  rw [bx7]
  go_wp2_with fail
  have bD := BoxN.new w8 50 #[.int .i64 (-4), .int .i64 12]
  replace hX := hX.alloc (.cells #[.int .i64 (-4), .int .i64 12] 50)
  generalize w8.alloc (.cells #[.int .i64 (-4), .int .i64 12] 50) = w9 at hX bD ⊢
  generalize w8.heap.size = D at bD ⊢
  replace hh := hh.ext hX
  replace ha := ha.ext hX
  replace hW := hW.trans hX
  replace bA := bA.ext hX
  replace bB := bB.ext hX
  replace bC := bC.ext hX
  clear hX
  have hX := Ext.refl w9
  go_wp2_with (go_at_call 103; with_reducible refine (box_any w9 _ _ _ _ _ (by assumption)).mono ?_; rintro e w1 ⟨rfl, hX⟩)
  with_reducible refine (Dists_any w9 _ _ _ _ _ _ _ _ _ (by assumption)).mono ?_
  rintro e w10 ⟨rfl, hX⟩
  rw [bx8]
  go_wp2_with fail
  have bE := BoxN.new w10 50 #[.int .i64 4, .int .i64 41]
  replace hX := hX.alloc (.cells #[.int .i64 4, .int .i64 41] 50)
  generalize w10.alloc (.cells #[.int .i64 4, .int .i64 41] 50) = w11 at hX bE ⊢
  generalize w10.heap.size = E at bE ⊢
  replace hh := hh.ext hX
  replace ha := ha.ext hX
  replace hW := hW.trans hX
  replace bA := bA.ext hX
  replace bB := bB.ext hX
  replace bC := bC.ext hX
  replace bD := bD.ext hX
  clear hX
  have hX := Ext.refl w11
  go_wp2_with (go_at_call 74; with_reducible refine (at_any w11 _ _ _ (by assumption)).mono ?_; rintro e w1 ⟨rfl, hX⟩)
  refine (samePts_any w11 _ _ [(0, 0), (4, 0), (0, 3)] [(0, 0), (4, 0), (0, 3)] _ (hX.alloc _) (hh.ext (hX.alloc _)) (Pts_mk rfl rfl rfl (by simp [maxLen]))).mono ?_
  rintro e w12 ⟨rfl, hX⟩
  rw [decide_eq_true (show [((0 : Int), (0 : Int)), (4, 0), (0, 3)] = [(0, 0), (4, 0), (0, 3)] from rfl)]
  go_wp2_with fail
  refine (sameInts_any w11 _ _ [2, 1, 0, 3] [2, 1, 0, 3] _ (hX.alloc _) (ha.ext (hX.alloc _)) (Ints_new _ _ _ _ rfl (by simp [maxLen]))).mono ?_
  rintro e w13 ⟨rfl, hX⟩
  rw [decide_eq_true (show [2, 1, 0, 3] = [2, 1, 0, 3] from rfl)]
  go_wp2_with fail
  replace hW := hW.trans hX
  replace bA := bA.ext hX
  replace bB := bB.ext hX
  replace bC := bC.ext hX
  replace bD := bD.ext hX
  replace bE := bE.ext hX
  clear hX hh ha
  obtain ⟨a0, a1, a2, a3, _⟩ := bA.box4
  obtain ⟨b0, b1, b2, b3, _⟩ := bB.box4
  obtain ⟨c0, c1, c2, c3, _⟩ := bC.box4
  obtain ⟨d0, d1, _⟩ := bD.box2
  obtain ⟨e0, e1, _⟩ := bE.box2
  have HW := Lib.hid hW
  clear hW bA bB bC bD bE
  have a0 := cell_regrown a0
  have a1 := cell_regrown a1
  have a2 := cell_regrown a2
  have a3 := cell_regrown a3
  have b0 := cell_regrown b0
  have b1 := cell_regrown b1
  have b2 := cell_regrown b2
  have b3 := cell_regrown b3
  have c0 := cell_regrown c0
  have c1 := cell_regrown c1
  have c2 := cell_regrown c2
  have c3 := cell_regrown c3
  have d0 := cell_regrown d0
  have d1 := cell_regrown d1
  have e0 := cell_regrown e0
  have e1 := cell_regrown e1
  have cA := regrow (w := w13) (fun w' => box_any w' (-3) 5 (-3) 3 w' (Ext.refl _))
  have cB := regrow (w := w13) (fun w' => box_any w' 0 3 5 7 w' (Ext.refl _))
  have cC := regrow (w := w13) (fun w' => box_any w' 0 3 8 9 w' (Ext.refl _))
  have qA := eqA
  have qB := eqB
  have qC := eqC
  have qD := eqD
  have qE := eqE
  refine wp_region_quiet_below (by kernel_rfl) (by kernel_rfl) ?_
  repeat (quiet_step (first | with_reducible exact cA _ _ | with_reducible exact cB _ _ | with_reducible exact cC _ _))
  refine wpQuiet_nil ?_
  intro _ hw'
  obtain ⟨⟨dq, osq⟩, hw''⟩ := hw'
  subst hw''
  have hXq : Ext w13 (Go.Sort.grow (redrawn w13 dq) osq) := below_regrown w13 dq osq
  have hW := HW.out.trans hXq
  change Exit.then _ _ Exit.normal _ (Go.Sort.grow (redrawn w13 dq) osq)
  generalize Go.Sort.grow (redrawn w13 dq) osq = wd at hW ⊢
  go_wp2_with fail
  go_ret
  exact ⟨rfl, hW⟩
end Go.Proofs.Ytdbhbfmbpldmnaa
