/- Contracts of greatest, long, contradict. -/
import Derived.Test.YtaggjclaehigjaaV2
import Derived.Test.YtaggjclaehigjaaA2
import Derived.Deep.DeepCutAuto
namespace Go.Proofs.Ytaggjclaehigjaa
open Go.RowKit
theorem ite_min : ∀ x y : Int, (if y < x then y else x) = min x y := fun x y => by split <;> omega
theorem ite_max : ∀ x y : Int, (if x < y then y else x) = max x y := fun x y => by split <;> omega
def Th.f (t : Th) : Four := ⟨t.i, t.y, t.lo, t.hi⟩
def SpE.fs (s : SpE) : List Four := s.L.map (·.2.2.f)
/-- the value of a spell -/
def SpE.val (s : SpE) : Value := .agg #[.int .i64 s.lo, .int .i64 s.hi, .int .i64 s.w, .slice s.a s.n s.c]
/-- a spell that lies in memory, of right works -/
structure SpOk (w : World) (s : SpE) : Prop where
  sl : Sl 1 encE w s.v s.L
  el : ∀ x ∈ s.L, EltAt w x
  ok : ∀ x ∈ s.L, OkF x.2.2.f
  we : 0 ≤ s.w ∧ s.w ≤ 1000
  ln : s.L.length ≤ 1001
theorem SpOk.ext {w w' : World} {s : SpE} (h : SpOk w s) (x : Ext w w') : SpOk w' s := ⟨h.sl.ext x, fun y hy => (h.el y hy).ext x, h.ok, h.we, h.ln⟩
theorem SpOk.parts {w : World} {s : SpE} (h : SpOk w s) : s.n = s.L.length ∧ s.L.length ≤ s.c ∧ (s.L = [] ∨ ∃ b off, s.a = some ⟨b, off, none⟩ ∧ ∀ i, (h : i < s.L.length) → w.cell? ⟨b, off + i, none⟩ = some (.iface s.L[i].1 s.L[i].2.1)) := by
  obtain ⟨a, cap, hv, hl, hm, hc⟩ := h.sl
  unfold SpE.v at hv
  injection hv with ha hn hcap
  subst hcap ha
  refine ⟨hn, hl, hc.imp id ?_⟩
  rintro ⟨b, off, ha, hc⟩
  exact ⟨b, off, ha, fun i hi => by have := hc i hi 0 _ rfl; simpa using this⟩
set_option maxRecDepth 100000 in
set_option maxHeartbeats 1000000 in
theorem greatest_any (W : World) (m : Int) (v : Value) (l : List Int) (w : World) (hX : Ext W w) (hv : Ints w v l) :
    Calls Try.prog 94 #[.int .i64 m, v] w fun e w' => e = .returned (.int .i64 (l.foldl max m)) ∧ Ext W w' := by
  obtain ⟨a, cap, rfl, hl, hm, hc⟩ := hv.parts
  have HC := Lib.hid hc
  unfold maxLen at hm
  have hml : l.length ≤ 9223372036854775807 := by omega
  have hmax := ite_max
  clear hc hm hv
  go_enter Try.func94, Try.ntmps94
  go_wp2
  go_loopw [0, 9] (fun u i wr => ∃ k : Nat, k ≤ l.length ∧ i = .int .i64 k ∧ u = .int .i64 ((l.take k).foldl max m) ∧ Ext w wr) (fun _ i _ => l.length - (intOf i).toNat)
  case atStart => exact ⟨0, Nat.zero_le _, rfl, rfl, Ext.refl _⟩
  case round =>
    obtain ⟨k, hk, rfl, rfl, hE⟩ := hrel
    by_cases hlt : k < l.length
    · obtain ⟨b, off, x, hx, rfl, c0⟩ := int_at HC.out hE hlt
      have HX : Hid ((l.take (k + 1)).foldl max m = max ((l.take k).foldl max m) x) := by
        show _ = _
        rw [List.take_succ_eq_append_getElem hlt, List.foldl_append, hx]
        rfl
      clear hx
      generalize (l.take k).foldl max m = q at HX ⊢
      go_wp2_with fail
      go_roundw
      case rel => exact ⟨k + 1, by omega, by go_num, by rw [HX.out], hE⟩
      case measure => simp [intOf]; omega
    · obtain rfl : k = l.length := by omega
      go_wp2_with fail
      go_ret
      exact ⟨by rw [List.take_length]; rfl, hX.trans hE⟩
theorem infoI : (Try.prog.info? 3).map (fun i => (i.zero, i.size, i.bytes)) = some (some (.int .i64 0), 1, 8) := by kernel_rfl
theorem block_keep {α : Type} {T k T' : Nat} {enc : α → List Value} {base b : Nat} {w w' : World} {v : Value} {l : List α} {cs : Array Value} {ro : Nat × Nat} (h : Own T k enc base w v l) (hg : w.grownBy w' v.ownBlock) (hb : w.heap[b]? = some (.cells cs T' ro)) (hT : T ≠ T') :
    w'.heap[b]? = some (.cells cs T' ro) := by
  refine (hg.block b (Array.getElem?_eq_some_iff.1 hb).1 (fun e => ?_)).trans hb
  obtain ⟨_, h2⟩ := h
  rcases h2 with ⟨rfl, _⟩ | ⟨g, cap, cur, rfl, _, hh, _⟩
  · cases e
  · injection e with e
    simp only at e
    subst e
    rw [hb] at hh
    injection hh with hh
    injection hh with _ hh _
    exact hT hh.symm
theorem new_keep {w w' : World} {o : Obj} (x : Ext (w.alloc o) w') : w'.heap[w.heap.size]? = some o := x.block (heap_alloc_new w o)
theorem foldl_max_map (w y : Int) (l : List Four) : ∀ m, (l.map (loZ w y)).foldl max m = l.foldl (fun m t => max m (loZ w y t)) m := by
  induction l with
  | nil => intro m; rfl
  | cons t l ih => intro m; exact ih _
def hiUp (w y : Int) (l : List Four) (k : Nat) : Int := limHi w y (l.take k)
theorem hiUp_succ {w y : Int} {l : List Four} {k : Nat} (hk : k < l.length) {t : Four} (ht : t = l[k]) : hiUp w y l (k + 1) = min (hiUp w y l k) (hiZ w y t) := by
  unfold hiUp limHi
  rw [List.take_succ_eq_append_getElem hk, List.foldl_append, ht]
  rfl
theorem hiUp_bd {w y : Int} {l : List Four} (k : Nat) (hw : 0 ≤ w) (h : ∀ t ∈ l, OkF t) : 9000 ≤ hiUp w y l k ∧ hiUp w y l k ≤ 12000 := by
  have key : ∀ (l : List Four), (∀ t ∈ l, OkF t) → ∀ m, 9000 ≤ m → 9000 ≤ l.foldl (fun m t => min m (hiZ w y t)) m := by
    intro l
    induction l with
    | nil => intro _ m hm; exact hm
    | cons t l ih =>
      intro h m hm
      refine ih (fun t ht => h t (by simp [ht])) _ ?_
      have ht := h t (by simp)
      have : 0 ≤ w * max 0 (y - t.y) := Int.mul_nonneg hw (Int.le_max_left _ _)
      show 9000 ≤ min m (hiZ w y t)
      unfold hiZ OkF at *
      omega
  exact ⟨key _ (fun t ht => h t (List.mem_of_mem_take ht)) _ (by omega), limHi_le _ _ _ _⟩
set_option maxRecDepth 100000 in
set_option maxHeartbeats 4000000 in
theorem long_any (W : World) (s : SpE) (y : Int) (w : World) (hX : Ext W w) (hs : SpOk w s) (hy1 : 0 ≤ y) (hy2 : y ≤ 4000) :
    Calls Try.prog 62 #[s.val, .int .i64 y] w fun e w' => e = .returned (.agg #[.int .i64 (limLo s.w y s.fs), .int .i64 (limHi s.w y s.fs)]) ∧ Ext W w' := by
  obtain ⟨hsn, hsl, hc⟩ := hs.parts
  have HC := Lib.hid hc
  have HEL := Lib.hid hs.el
  have HOK := Lib.hid hs.ok
  have hw1 := hs.we.1
  have hw2 := hs.we.2
  have hln := hs.ln
  have HS := Lib.hid hs
  clear hc hs
  have hmax := ite_max
  have hmin := ite_min
  obtain ⟨slo, shi, sw, sa, sn, sc, sL⟩ := s
  simp only at hsn hsl hw1 hw2 hln
  subst hsn
  have HFS : Hid ((SpE.mk slo shi sw sa sL.length sc sL).fs = sL.map (·.2.2.f)) := rfl
  have hLO : Hid (limLo sw y (sL.map (·.2.2.f)) = limLo sw y (SpE.mk slo shi sw sa sL.length sc sL).fs ∧ limHi sw y (sL.map (·.2.2.f)) = limHi sw y (SpE.mk slo shi sw sa sL.length sc sL).fs) := ⟨rfl, rfl⟩
  show Calls Try.prog 62 #[.agg #[.int .i64 slo, .int .i64 shi, .int .i64 sw, .slice sa sL.length sc], .int .i64 y] w _
  go_enter Try.func62, Try.ntmps62
  go_wp2_with fail
  have hX0 : Ext w ((w.alloc (.cells #[.int .i64 slo, .int .i64 shi, .int .i64 sw, .slice sa sL.length sc] 88)).alloc (.cells #[.int .i64 0, .int .i64 0] 30)) := ((Ext.refl w).alloc _).alloc _
  have hb2 : ((w.alloc (.cells #[.int .i64 slo, .int .i64 shi, .int .i64 sw, .slice sa sL.length sc] 88)).alloc (.cells #[.int .i64 0, .int .i64 0] 30)).cell? ⟨w.heap.size, 2, none⟩ = some (.int .i64 sw) := ((Ext.refl _).alloc _).cell (cell_new w [_, _, _, _] _ 2)
  have hr0 : ((w.alloc (.cells #[.int .i64 slo, .int .i64 shi, .int .i64 sw, .slice sa sL.length sc] 88)).alloc (.cells #[.int .i64 0, .int .i64 0] 30)).heap[w.heap.size + 1]? = some (.cells #[.int .i64 0, .int .i64 0] 30) := by
    have := heap_alloc_new (w.alloc (.cells #[.int .i64 slo, .int .i64 shi, .int .i64 sw, .slice sa sL.length sc] 88)) (.cells #[.int .i64 0, .int .i64 0] 30)
    rwa [World.size_alloc] at this
  have hsz : ((w.alloc (.cells #[.int .i64 slo, .int .i64 shi, .int .i64 sw, .slice sa sL.length sc] 88)).alloc (.cells #[.int .i64 0, .int .i64 0] 30)).heap.size = w.heap.size + 2 := by simp
  obtain ⟨wa, hwa⟩ : ∃ wa, (w.alloc (.cells #[.int .i64 slo, .int .i64 shi, .int .i64 sw, .slice sa sL.length sc] 88)).alloc (.cells #[.int .i64 0, .int .i64 0] 30) = wa := ⟨_, rfl⟩
  rw [hwa] at hX0 hb2 hr0 hsz ⊢
  clear hwa
  have hO0 : Own 3 1 enc1 wa.heap.size (wa.alloc (.cells #[] 3)) (.slice (some ⟨w.heap.size + 1 + 1, 0, none⟩) 0 0) [] := Own.new enc1_len rfl hsz.symm rfl (Nat.le_refl _) (by simp)
  have hWB : W.heap.size ≤ w.heap.size := hX.le
  generalize w.heap.size = B at hb2 hr0 hsz hO0 hWB ⊢
  go_loopw [5, 6, 15] (fun u v i wr => ∃ k : Nat, k ≤ sL.length ∧ i = .int .i64 k ∧ v = .int .i64 (hiUp sw y (sL.map (·.2.2.f)) k) ∧ Own 3 1 enc1 wa.heap.size wr u (((sL.map (·.2.2.f)).take k).map (loZ sw y)) ∧ Ext wa wr) (fun _ _ i _ => sL.length - (intOf i).toNat)
  case atStart => exact ⟨0, Nat.zero_le _, rfl, rfl, hO0, (Ext.refl _).alloc _⟩
  case round =>
    clear hO0
    obtain ⟨k, hk, rfl, rfl, hO, hE⟩ := hrel
    have hbd := hiUp_bd (w := sw) (y := y) (l := sL.map (·.2.2.f)) k hw1 (by intro t ht; obtain ⟨x, hx, rfl⟩ := List.mem_map.1 ht; exact HOK.out x hx)
    by_cases hlt : k < sL.length
    · obtain ⟨b, off, ha, hcl⟩ := HC.out.resolve_left (fun e => by have : sL = [] := e; rw [this] at hlt; simp at hlt)
      have ha' : sa = some ⟨b, off, none⟩ := ha
      subst ha'
      obtain ⟨x, hx⟩ : ∃ x, x = sL[k] := ⟨_, rfl⟩
      have hxm : x ∈ sL := by rw [hx]; exact List.getElem_mem hlt
      have cx : wr.cell? ⟨b, off + k, none⟩ = some (.iface x.1 x.2.1) := by rw [hx]; exact (hX0.trans hE).cell (hcl k hlt)
      have hAx : ThAt wr (.iface x.1 x.2.1) x.2.2 := (HEL.out x hxm).ext (hX0.trans hE)
      have hok := HOK.out x hxm
      obtain ⟨⟨g1, g2⟩, g3, g4, g5⟩ := hok
      have HN1 : Hid (hiUp sw y (sL.map (·.2.2.f)) (k + 1) = min (hiUp sw y (sL.map (·.2.2.f)) k) (x.2.2.hi + sw * max 0 (y - x.2.2.y))) := by
        show _ = _
        rw [hiUp_succ (t := x.2.2.f) (by simpa using hlt) (by simp [hx])]
        rfl
      have HN2 : Hid (((sL.map (·.2.2.f)).take (k + 1)).map (loZ sw y) = ((sL.map (·.2.2.f)).take k).map (loZ sw y) ++ [x.2.2.lo - sw * max 0 (x.2.2.y - y)]) := by
        show _ = _
        rw [List.take_succ_eq_append_getElem (by simpa using hlt), List.map_append, hx]
        simp [loZ, Th.f]
      generalize x.2.2 = t at hAx g1 g2 g3 g4 g5 HN1 HN2 ⊢
      obtain ⟨tk, ti, ty, tlo, thi⟩ := t
      simp only [Th.f] at g1 g2 g3 g4 g5
      generalize hiUp sw y (sL.map (·.2.2.f)) k = q at hbd HN1 ⊢
      obtain ⟨q1, q2⟩ := hbd
      obtain ⟨m1, hm1⟩ : ∃ m, max 0 (ty - y) = m := ⟨_, rfl⟩
      obtain ⟨m2, hm2⟩ : ∃ m, max 0 (y - ty) = m := ⟨_, rfl⟩
      obtain ⟨p1, hp1⟩ : ∃ m, sw * m1 = m := ⟨_, rfl⟩
      obtain ⟨p2, hp2⟩ : ∃ m, sw * m2 = m := ⟨_, rfl⟩
      have r1 := mul_rng (a := sw) (b := m1) (A := 1000) (B := 4000) hw1 hw2 (by omega) (by omega)
      have r2 := mul_rng (a := sw) (b := m2) (A := 1000) (B := 4000) hw1 hw2 (by omega) (by omega)
      rw [hp1] at r1
      rw [hp2] at r2
      obtain ⟨r11, r12⟩ := r1
      obtain ⟨r21, r22⟩ := r2
      have HN1 : Hid (hiUp sw y (sL.map (·.2.2.f)) (k + 1) = min q (thi + p2)) := by show _ = _; rw [HN1.out, hm2, hp2]
      have HN2 : Hid (((sL.map (·.2.2.f)).take (k + 1)).map (loZ sw y) = ((sL.map (·.2.2.f)).take k).map (loZ sw y) ++ [tlo - p1]) := by show _ = _; rw [HN2.out, hm1, hp1]
      have e2 := hE.cell hb2
      have z2 := lt_of_cell e2
      have HAX := Lib.hid hAx
      have hEle := hE.le
      clear hx hcl hAx hxm
      go_wp2_with (first
        | (refine inv_shows rfl (.tmp 20) _ rfl _ _ rfl (HAX.out.ext (by repeat (first | exact Ext.refl _ | refine Ext.alloc ?_ _))) ⟨fun _ _ _ => by kernel_rfl, fun _ _ _ => by kernel_rfl, fun _ _ _ => by kernel_rfl⟩ ?_; intro w1 hX1; have h1le := hX1.le; have e3 := hX1.cell e2; have z3 := lt_of_cell e3)
        | (at_builtin; refine app_many 44 3 1 8 (.int .i64 0) enc1 enc1_len enc1_one Try.underlying44 infoI rfl (by decide) (by decide) rfl (.tmp 24) (.tmp 35) rfl wa.heap.size _ _ rfl (hO.ext ((hX1.alloc _).alloc _)) _ [tlo - p1] rfl (Sl.new1 (by simp) rfl) (by simp; omega) (by simp; omega) ?_; intro v2 w2 hO2 hg2 hE2 hb2'; have bk := block_keep (hO.ext ((hX1.alloc _).alloc _)) hg2 (new_keep (w := w1) ((Ext.refl _).alloc _)) (by decide); have q0 := cell_at bk 1; have hEw2 := hE2 wa (Nat.le_refl _) (((hE.trans hX1).alloc _).alloc _); have q2 := hEw2.cell hb2; have z4 := lt_of_cell q2))
      go_roundw
      case rel => exact ⟨k + 1, by omega, by go_num, by rw [HN1.out], by rw [HN2.out]; exact hO2, hEw2⟩
      case measure => simp [intOf]; omega
    · obtain rfl : k = sL.length := by omega
      have hI := hO.sl enc1_len
      have e1 : limLo sw y (sL.map (·.2.2.f)) = ((sL.map (·.2.2.f)).map (loZ sw y)).foldl max 9000 := (foldl_max_map _ _ _ _).symm
      rw [List.take_of_length_le (by simp)] at hI
      generalize (sL.map (·.2.2.f)).map (loZ sw y) = ll at hI e1
      have E1 := Lib.hid e1
      have HI := Lib.hid hI
      have e2 : hiUp sw y (sL.map (·.2.2.f)) sL.length = limHi sw y (sL.map (·.2.2.f)) := by unfold hiUp; rw [List.take_of_length_le (by simp)]
      rw [e2]
      generalize limHi sw y (sL.map (·.2.2.f)) = q at hLO ⊢
      clear e1 e2 hI hO hbd
      have cr := hE.block hr0
      have c0 := cell_at cr 0
      have c1 := cell_at cr 1
      have fr0 := frozen_cells (g := B + 1) (T := 30) ⟨_, cr⟩ 0
      have fr1 := frozen_cells (g := B + 1) (T := 30) ⟨_, cr⟩ 1
      have zB : B + 1 < wr.heap.size := (Array.getElem?_eq_some_iff.1 cr).1
      clear cr hr0
      go_wp2_with (go_at_call 94; with_reducible refine (greatest_any _ 9000 _ _ _ (Ext.refl _) HI.out).mono ?_; rintro e w2 ⟨rfl, hX2⟩; have c5 := hX2.cell c0; have c6 := hX2.cell c1; have f5 := hX2.frozen zB fr0; have f6 := hX2.frozen zB fr1)
      refine bodyPost_ret (v := .agg #[.int .i64 (ll.foldl max 9000), .int .i64 q]) (by simp [results, Try.results62, c5, c6, go_sem]) rfl ⟨by rw [← hLO.out.1, hLO.out.2.symm, E1.out], ?_⟩
      repeat (first | exact hX.trans (hX0.trans (hE.trans hX2)) | refine Ext.setCell ?_ (by simp; omega) _)
theorem max_mul_zero {w m : Int} (h : m = 0) : w * m = 0 := by rw [h]; simp
set_option maxRecDepth 100000 in
set_option maxHeartbeats 4000000 in
theorem contradict_any (W : World) (s : SpE) (u v : Value) (t r : Th) (w : World) (hX : Ext W w) (hu : ThAt w u t) (hv : ThAt w v r) (ht : OkF t.f) (hr : OkF r.f) (hw1 : 0 ≤ s.w) (hw2 : s.w ≤ 1000) :
    Calls Try.prog 124 #[s.val, u, v] w fun e w' => e = .returned (.bool (clashB s.w t.f r.f)) ∧ Ext W w' := by
  obtain ⟨slo, shi, sw, sa, sn, sc, sL⟩ := s
  simp only at hw1 hw2
  show Calls Try.prog 124 #[.agg #[.int .i64 slo, .int .i64 shi, .int .i64 sw, .slice sa sn sc], u, v] w _
  obtain ⟨⟨g1, g2⟩, g3, g4, g5⟩ := ht
  obtain ⟨⟨k1, k2⟩, k3, k4, k5⟩ := hr
  obtain ⟨⟨uT, uV, _⟩, rfl, _, _⟩ := hu.elt
  obtain ⟨⟨vT, vV, _⟩, rfl, _, _⟩ := hv.elt
  have HU := Lib.hid hu
  have HV := Lib.hid hv
  clear hu hv
  have HR : Hid (clashB sw t.f r.f = (decide (t.lo - sw * max 0 (t.y - r.y) > r.hi) || decide (r.lo - sw * max 0 (r.y - t.y) > t.hi))) := rfl
  obtain ⟨tk, ti, ty, tlo, thi⟩ := t
  obtain ⟨rk, ri, ry, rlo, rhi⟩ := r
  simp only [Th.f] at g1 g2 g3 g4 g5 k1 k2 k3 k4 k5
  rcases Int.lt_trichotomy ty ry with hlt | heq | hgt
  · obtain ⟨m, hm⟩ : ∃ m, ry - ty = m := ⟨_, rfl⟩
    obtain ⟨p, hp⟩ : ∃ p, sw * m = p := ⟨_, rfl⟩
    have r1 := mul_rng (a := sw) (b := m) (A := 1000) (B := 4000) hw1 hw2 (by omega) (by omega)
    rw [hp] at r1
    obtain ⟨r11, r12⟩ := r1
    have HR2 : Hid (clashB sw (Th.f ⟨tk, ti, ty, tlo, thi⟩) (Th.f ⟨rk, ri, ry, rlo, rhi⟩) = (decide (rhi < tlo) || decide (thi < rlo - p))) := by
      show _ = _
      rw [HR.out, max_mul_zero (m := max 0 (ty - ry)) (by omega), show max 0 (ry - ty) = m from by omega, hp, Int.sub_zero]
    have n1 : (ty == ry) = false := by rw [beq_eq_false_iff_ne]; omega
    have n2 : decide (ry < ty) = false := by rw [decide_eq_false_iff_not]; omega
    cases hc : decide (rhi < tlo)
    all_goals
      go_enter Try.func124, Try.ntmps124
      go_upto_if 23 with (first
        | (refine inv_shows rfl (.tmp 12) _ rfl _ _ rfl (HU.out.ext ((Ext.refl _).alloc _)) ⟨fun _ _ _ => by kernel_rfl, fun _ _ _ => by kernel_rfl, fun _ _ _ => by kernel_rfl⟩ ?_; intro w1 hX1; have hV2 := HV.out.ext (Ext.trans (Ext.alloc (Ext.refl w) _) hX1); have b2 := hX1.cell (cell_new w [_, _, _, _] _ 2); have hz1 := lt_of_cell b2)
        | (refine inv_shows rfl (.tmp 17) _ rfl _ _ rfl (hV2.ext ((Ext.refl _).alloc _)) ⟨fun _ _ _ => by kernel_rfl, fun _ _ _ => by kernel_rfl, fun _ _ _ => by kernel_rfl⟩ ?_; intro w2 hX2; have a0 := hX2.cell (cell_new w1 [.int .i64 tlo, .int .i64 thi] _ 0); have a1 := hX2.cell (cell_new w1 [.int .i64 tlo, .int .i64 thi] _ 1); have a2 := hX2.cell ((Ext.alloc (Ext.refl w1) _).cell b2); have hz2 := lt_of_cell a2; have hz3 := lt_of_cell a0; have ff := hX2.frozen (a := ⟨w1.heap.size, 0, none⟩) (by simp) (frozen_cells ⟨_, heap_alloc_new w1 _⟩ 0); have ff1 := hX2.frozen (a := ⟨w1.heap.size, 1, none⟩) (by simp) (frozen_cells ⟨_, heap_alloc_new w1 _⟩ 1); have HX9 : Hid (Ext w w2) := Ext.trans (Ext.alloc (Ext.refl w) _) (hX1.trans (Ext.trans (Ext.alloc (Ext.refl w1) _) hX2)); clear hX1 hX2 hV2 b2))
      go_wp2_with fail
      go_ret
      exact ⟨by rw [HR2.out, hc]; rfl, hX.trans (HX9.out.alloc _)⟩
  · subst heq
    have HR2 : Hid (clashB sw (Th.f ⟨tk, ti, ty, tlo, thi⟩) (Th.f ⟨rk, ri, ty, rlo, rhi⟩) = (decide (rhi < tlo) || decide (thi < rlo))) := by
      show _ = _
      rw [HR.out, max_mul_zero (m := max 0 (ty - ty)) (by omega), Int.sub_zero, Int.sub_zero]
    cases hc : decide (rhi < tlo)
    all_goals
      go_enter Try.func124, Try.ntmps124
      go_upto_if 23 with (first
        | (refine inv_shows rfl (.tmp 12) _ rfl _ _ rfl (HU.out.ext ((Ext.refl _).alloc _)) ⟨fun _ _ _ => by kernel_rfl, fun _ _ _ => by kernel_rfl, fun _ _ _ => by kernel_rfl⟩ ?_; intro w1 hX1; have hV2 := HV.out.ext (Ext.trans (Ext.alloc (Ext.refl w) _) hX1); have b2 := hX1.cell (cell_new w [_, _, _, _] _ 2); have hz1 := lt_of_cell b2)
        | (refine inv_shows rfl (.tmp 17) _ rfl _ _ rfl (hV2.ext ((Ext.refl _).alloc _)) ⟨fun _ _ _ => by kernel_rfl, fun _ _ _ => by kernel_rfl, fun _ _ _ => by kernel_rfl⟩ ?_; intro w2 hX2; have a0 := hX2.cell (cell_new w1 [.int .i64 tlo, .int .i64 thi] _ 0); have a1 := hX2.cell (cell_new w1 [.int .i64 tlo, .int .i64 thi] _ 1); have a2 := hX2.cell ((Ext.alloc (Ext.refl w1) _).cell b2); have hz2 := lt_of_cell a2; have hz3 := lt_of_cell a0; have ff := hX2.frozen (a := ⟨w1.heap.size, 0, none⟩) (by simp) (frozen_cells ⟨_, heap_alloc_new w1 _⟩ 0); have ff1 := hX2.frozen (a := ⟨w1.heap.size, 1, none⟩) (by simp) (frozen_cells ⟨_, heap_alloc_new w1 _⟩ 1); have HX9 : Hid (Ext w w2) := Ext.trans (Ext.alloc (Ext.refl w) _) (hX1.trans (Ext.trans (Ext.alloc (Ext.refl w1) _) hX2)); clear hX1 hX2 hV2 b2))
      go_wp2_with fail
      go_ret
      exact ⟨by rw [HR2.out, hc]; rfl, hX.trans (HX9.out.alloc _)⟩
  · obtain ⟨m, hm⟩ : ∃ m, ty - ry = m := ⟨_, rfl⟩
    obtain ⟨p, hp⟩ : ∃ p, sw * m = p := ⟨_, rfl⟩
    have r1 := mul_rng (a := sw) (b := m) (A := 1000) (B := 4000) hw1 hw2 (by omega) (by omega)
    rw [hp] at r1
    obtain ⟨r11, r12⟩ := r1
    have HR2 : Hid (clashB sw (Th.f ⟨tk, ti, ty, tlo, thi⟩) (Th.f ⟨rk, ri, ry, rlo, rhi⟩) = (decide (thi < rlo) || decide (rhi < tlo - p))) := by
      show _ = _
      rw [HR.out, max_mul_zero (m := max 0 (ry - ty)) (by omega), show max 0 (ty - ry) = m from by omega, hp, Int.sub_zero, Bool.or_comm]
    have n1 : (ry == ty) = false := by rw [beq_eq_false_iff_ne]; omega
    have n2 : decide (ry < ty) = true := by rw [decide_eq_true_iff]; omega
    cases hc : decide (thi < rlo)
    all_goals
      go_enter Try.func124, Try.ntmps124
      go_upto_if 23 with (first
        | (refine inv_shows rfl (.tmp 12) _ rfl _ _ rfl (HU.out.ext ((Ext.refl _).alloc _)) ⟨fun _ _ _ => by kernel_rfl, fun _ _ _ => by kernel_rfl, fun _ _ _ => by kernel_rfl⟩ ?_; intro w1 hX1; have hV2 := HV.out.ext (Ext.trans (Ext.alloc (Ext.refl w) _) hX1); have b2 := hX1.cell (cell_new w [_, _, _, _] _ 2); have hz1 := lt_of_cell b2)
        | (refine inv_shows rfl (.tmp 17) _ rfl _ _ rfl (hV2.ext ((Ext.refl _).alloc _)) ⟨fun _ _ _ => by kernel_rfl, fun _ _ _ => by kernel_rfl, fun _ _ _ => by kernel_rfl⟩ ?_; intro w2 hX2; have a0 := hX2.cell (cell_new w1 [.int .i64 tlo, .int .i64 thi] _ 0); have a1 := hX2.cell (cell_new w1 [.int .i64 tlo, .int .i64 thi] _ 1); have a2 := hX2.cell ((Ext.alloc (Ext.refl w1) _).cell b2); have hz2 := lt_of_cell a2; have hz3 := lt_of_cell a0; have ff := hX2.frozen (a := ⟨w1.heap.size, 0, none⟩) (by simp) (frozen_cells ⟨_, heap_alloc_new w1 _⟩ 0); have ff1 := hX2.frozen (a := ⟨w1.heap.size, 1, none⟩) (by simp) (frozen_cells ⟨_, heap_alloc_new w1 _⟩ 1); have HX9 : Hid (Ext w w2) := Ext.trans (Ext.alloc (Ext.refl w) _) (hX1.trans (Ext.trans (Ext.alloc (Ext.refl w1) _) hX2)); clear hX1 hX2 hV2 b2))
      go_cut [7, 9] (fun a b wx => a = .int .i64 ry ∧ b = .int .i64 ty ∧ wx.cell? ⟨w1.heap.size, 0, none⟩ = some (.int .i64 rlo) ∧ wx.cell? ⟨w1.heap.size, 1, none⟩ = some (.int .i64 rhi) ∧ wx.cell? ⟨w2.heap.size, 0, none⟩ = some (.int .i64 tlo) ∧ wx.cell? ⟨w2.heap.size, 1, none⟩ = some (.int .i64 thi) ∧ wx.cell? ⟨w.heap.size, 2, none⟩ = some (.int .i64 sw) ∧ Ext w wx)
      case first =>
        go_wp2_with fail
        go_region
        all_goals
          go_wp2_with fail
          go_meet
          case rel =>
            refine ⟨rfl, rfl, by go_simp, by go_simp, by go_simp, by go_simp, by go_simp, ?_⟩
            have h9 := HX9.out
            have hle := h9.le
            repeat (first | exact h9 | refine Ext.alloc ?_ _ | refine Ext.drew ?_ | refine Ext.setCell ?_ (by simp; omega) _)
      case rest =>
        obtain ⟨rfl, rfl, c0, c1, c2, c3, c4, hE⟩ := hcut
        clear a0 a1 a2
        go_wp2_with fail
        go_ret
        exact ⟨by rw [HR2.out, hc]; rfl, hX.trans hE⟩
end Go.Proofs.Ytaggjclaehigjaa
