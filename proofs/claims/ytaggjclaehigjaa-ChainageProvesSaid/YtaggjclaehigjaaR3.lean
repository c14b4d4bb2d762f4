/- Contracts of the specification's functions: things. -/
import Derived.Test.YtaggjclaehigjaaR2
namespace Go.Proofs.Ytaggjclaehigjaa
open Go.RowKit
def encF (t : Four) : List Value := [.int .i64 t.i, .int .i64 t.y, .int .i64 t.lo, .int .i64 t.hi]
theorem encF_len (x : Four) : (encF x).length = 4 := rfl
theorem encF_one (x : Four) : ∀ u ∈ encF x, u.oneCell' = true := by
  intro u hu
  simp only [encF, List.mem_cons, List.not_mem_nil, or_false] at hu
  rcases hu with rfl | rfl | rfl | rfl <;> rfl
def f5 (x : Five) : Four := ⟨x.a, x.c, x.d, x.e⟩
theorem infoF : (Try.prog.info? 106).map (fun i => (i.zero, i.size, i.bytes)) = some (some (.agg #[.int .i64 0, .int .i64 0, .int .i64 0, .int .i64 0]), 4, 32) := by kernel_rfl
theorem infoI : (Try.prog.info? 3).map (fun i => (i.zero, i.size, i.bytes)) = some (some (.int .i64 0), 1, 8) := by kernel_rfl
theorem Own.other {α : Type} {T k : Nat} {enc : α → List Value} {base : Nat} {w w' : World} {v : Value} {l : List α} {row : Option Nat} (h : Own T k enc base w v l) (hg : w.grownBy w' row) (hne : ∀ g, v.ownBlock = some g → row ≠ some g) : Own T k enc base w' v l := by
  obtain ⟨h1, h2⟩ := h
  refine ⟨h1, ?_⟩
  rcases h2 with h2 | ⟨g, cap, cur, hv, hb, hgg, r⟩
  · exact Or.inl h2
  · exact Or.inr ⟨g, cap, cur, hv, hb, (hg.block g (Array.getElem?_eq_some_iff.1 hgg).1 (fun e => hne g (by rw [hv]; rfl) e.symm)).trans hgg, r⟩
theorem Own.apart {α β : Type} {T k T' k' : Nat} {enc : α → List Value} {enc' : β → List Value} {base base' : Nat} {w : World} {v v' : Value} {l : List α} {l' : List β} (h : Own T k enc base w v l) (h' : Own T' k' enc' base' w v' l') (hT : T ≠ T') : ∀ g, v.ownBlock = some g → v'.ownBlock ≠ some g := by
  intro g hg hg'
  obtain ⟨_, h2⟩ := h
  obtain ⟨_, h2'⟩ := h'
  rcases h2 with ⟨rfl, _⟩ | ⟨g1, c1, cur1, rfl, _, hh1, _⟩
  · cases hg
  · rcases h2' with ⟨rfl, _⟩ | ⟨g2, c2, cur2, rfl, _, hh2, _⟩
    · cases hg'
    · injection hg with hg
      injection hg' with hg'
      simp only at hg hg'
      subst hg
      subst hg'
      rw [hh1] at hh2
      injection hh2 with hh2
      injection hh2 with _ hh2 _
      exact hT hh2
/-- a block that is younger than a row stays as the row grows -/
theorem Own.young {α : Type} {T k : Nat} {enc : α → List Value} {base : Nat} {wr w w' : World} {v : Value} {l : List α} (h : Own T k enc base wr v l) (hg : w.grownBy w' v.ownBlock) {b o : Nat} {u : Value} (hb : wr.heap.size ≤ b) (hc : w.cell? ⟨b, o, none⟩ = some u) : w'.cell? ⟨b, o, none⟩ = some u := by
  refine (World.cell?_of_block (hg.block b (lt_of_cell hc) (fun e => ?_))).trans hc
  have := (World.ownsRow.lt h b e.symm).2
  omega
theorem Sl.mk1 {α : Type} {k : Nat} {enc : α → List Value} {w : World} {T n : Nat} {cs : Array Value} {x : α} (hn : n = w.heap.size) (hcs : cs = (enc x).toArray) : Sl k enc (w.alloc (.cells cs T)) (.slice (some ⟨n, 0, none⟩) 1 1) [x] := by
  subst hn hcs
  exact Sl.one (fun j u hj => (cell_new w (enc x) T j).trans hj)
/-- what things returns -/
def ThingsPost (W : World) (P R : List Five) (e : Ending) (w : World) : Prop :=
  ∃ v1 v2, e = .returned (.tuple #[v1, v2]) ∧ Sl 4 encF w v1 ((P ++ R).map f5) ∧ Sl 1 enc1 w v2 ((P ++ R).map (·.b)) ∧ Ext W w
/-- the same, and both lie in new blocks -/
def ThingsPost2 (W : World) (base : Nat) (P R : List Five) (e : Ending) (w : World) : Prop :=
  ∃ v1 v2, e = .returned (.tuple #[v1, v2]) ∧ Own 106 4 encF base w v1 ((P ++ R).map f5) ∧ Own 3 1 enc1 base w v2 ((P ++ R).map (·.b)) ∧ Ext W w
theorem Own.young_at {α : Type} {T k : Nat} {enc : α → List Value} {base : Nat} {w : World} {l : List α} {b o n c : Nat} (h : Own T k enc base w (.slice (some ⟨b, o, none⟩) n c) l) : base ≤ b := by
  obtain ⟨_, h2⟩ := h
  rcases h2 with ⟨h2, _⟩ | ⟨g, cap, cur, hv, hb, _⟩
  · cases h2
  · injection hv with h3 _ _
    injection h3 with h3
    injection h3 with h3 _ _
    omega
theorem take_map_succ {α β : Type} {f : α → β} {l : List α} {k : Nat} (hk : k < l.length) {x : α} (hx : x = l[k]) : (l.take (k + 1)).map f = (l.take k).map f ++ [f x] := by
  rw [List.take_succ_eq_append_getElem hk, List.map_append, hx]
  rfl
set_option maxRecDepth 100000 in
set_option maxHeartbeats 4000000 in
theorem rthings2 (W : World) (C P R : List Five) (v : Value) (w : World) (hX : Ext W w) (hv : Wk w v C P R) (hl : P.length + R.length ≤ 100000) :
    Calls Try.prog 59 #[v] w (ThingsPost2 W w.heap.size P R) := by
  obtain ⟨vC, vP, vR, rfl, hC, hP, hR, hn⟩ := hv
  obtain ⟨aP, capP, rfl, hlP, hmP, hcP⟩ := hP.parts
  obtain ⟨aR, capR, rfl, hlR, hmR, hcR⟩ := hR.parts
  have HcP := Lib.hid hcP
  have HcR := Lib.hid hcR
  clear hcP hcR hC hP hR hmP hmR hn
  go_enter Try.func59, Try.ntmps59
  go_wp2_with fail
  have hX0 : Ext w (w.alloc (.cells #[vC, .slice aP P.length capP, .slice aR R.length capR] 26)) := (Ext.refl w).alloc _
  have hb1 : (w.alloc (.cells #[vC, .slice aP P.length capP, .slice aR R.length capR] 26)).cell? ⟨w.heap.size, 1, none⟩ = some (.slice aP P.length capP) := cell_new w [_, _, _] _ 1
  have hb2 : (w.alloc (.cells #[vC, .slice aP P.length capP, .slice aR R.length capR] 26)).cell? ⟨w.heap.size, 2, none⟩ = some (.slice aR R.length capR) := cell_new w [_, _, _] _ 2
  obtain ⟨wa, hwa⟩ : ∃ wa, w.alloc (.cells #[vC, .slice aP P.length capP, .slice aR R.length capR] 26) = wa := ⟨_, rfl⟩
  rw [hwa] at hX0 hb1 hb2 ⊢
  clear hwa
  obtain ⟨B, hBB⟩ : ∃ B, w.heap.size = B := ⟨_, rfl⟩
  rw [hBB] at hb1 hb2 ⊢
  go_loopw [4, 5, 6] (fun u q i wr => ∃ k : Nat, k ≤ P.length ∧ i = .int .i64 k ∧ Own 106 4 encF wa.heap.size wr u ((P.take k).map f5) ∧ Own 3 1 enc1 wa.heap.size wr q ((P.take k).map (·.b)) ∧ Ext wa wr) (fun _ _ i _ => P.length - (intOf i).toNat)
  case atStart => exact ⟨0, Nat.zero_le _, rfl, Own.nil _ _ _ _ _, Own.nil _ _ _ _ _, Ext.refl _⟩
  case round =>
    obtain ⟨k, hk, rfl, hO, hQ, hE⟩ := hrel
    have d1 := hE.cell hb1
    have zB := lt_of_cell d1
    by_cases hlt : k < P.length
    · obtain ⟨b, off, x, hx, rfl, c0, c1, c2, c3, c4⟩ := five_at HcP.out (hX0.trans hE) hlt
      have HX := Lib.hid hx
      clear hx
      have hb5 : (wr.alloc (.cells #[.int .i64 x.a, .int .i64 x.b, .int .i64 x.c, .int .i64 x.d, .int .i64 x.e] 72)).cell? ⟨wr.heap.size, 1, none⟩ = some (.int .i64 x.b) := (At5_new wr 72 x).2.1
      go_wp2_with (first
        | (at_builtin; with_reducible refine app_many 101 106 4 32 (.agg #[.int .i64 0, .int .i64 0, .int .i64 0, .int .i64 0]) encF encF_len encF_one Try.underlying101 infoF rfl (by decide) (by decide) rfl (.tmp 22) (.tmp 30) rfl wa.heap.size u4 ((P.take k).map f5) rfl (hO.ext (((Ext.refl _).alloc _).alloc _)) _ [f5 x] rfl (Sl.mk1 (by simp) rfl) (by simp; omega) (by simp; exact Nat.le_trans hE.le (by omega)) ?_; intro v2 w2 hO2 hg2 hE2 hb2'; have e1 := Own.young hO hg2 (Nat.le_refl _) (((Ext.refl _).alloc _).cell hb5); have hQ2 := (hQ.ext (((Ext.refl _).alloc _).alloc _)).other hg2 (fun g hg => hQ.apart hO (by decide) g hg); have hE3 := hE2 wa (Nat.le_refl _) ((hE.alloc _).alloc _))
        | (at_builtin; with_reducible refine app_many 44 3 1 8 (.int .i64 0) enc1 enc1_len enc1_one Try.underlying44 infoI rfl (by decide) (by decide) rfl (.tmp 32) (.tmp 35) rfl wa.heap.size u5 ((P.take k).map (·.b)) rfl (hQ2.ext ((Ext.refl _).alloc _)) _ [x.b] rfl (Sl.mk1 (by simp) rfl) (by simp; omega) (by simp; exact Nat.le_trans hE3.le (by omega)) ?_; intro v3 w3 hQ3 hg3 hE4 hb3'; have hO3 := (hO2.ext ((Ext.refl _).alloc _)).other hg3 (fun g hg => hO2.apart hQ2 (by decide) g hg); have hE5 := hE4 wa (Nat.le_refl _) (hE3.alloc _))
        | fail)
      go_roundw
      case rel => exact ⟨k + 1, by omega, by go_num, by rw [take_map_succ hlt HX.out]; exact hO3, by rw [take_map_succ hlt HX.out]; exact hQ3, hE5⟩
      case measure => simp [intOf]; omega
    · obtain rfl : k = P.length := by omega
      rw [List.take_length] at hO hQ
      have d2 := hE.cell hb2
      go_wp2_with fail
      clear d2
      go_loopw [4, 5, 8] (fun u q i wr => ∃ k : Nat, k ≤ R.length ∧ i = .int .i64 k ∧ Own 106 4 encF wa.heap.size wr u (P.map f5 ++ (R.take k).map f5) ∧ Own 3 1 enc1 wa.heap.size wr q (P.map (·.b) ++ (R.take k).map (·.b)) ∧ Ext wa wr) (fun _ _ i _ => R.length - (intOf i).toNat)
      case atStart => exact ⟨0, Nat.zero_le _, rfl, by simpa using hO, by simpa using hQ, hE⟩
      case round =>
        clear hO hQ hE d1 zB
        obtain ⟨k, hk, rfl, hO, hQ, hE⟩ := hrel
        have d1 := hE.cell hb2
        have zB := lt_of_cell d1
        by_cases hlt : k < R.length
        · obtain ⟨b, off, x, hx, rfl, c0, c1, c2, c3, c4⟩ := five_at HcR.out (hX0.trans hE) hlt
          have HX := Lib.hid hx
          clear hx
          have hb5 : (wr.alloc (.cells #[.int .i64 x.a, .int .i64 x.b, .int .i64 x.c, .int .i64 x.d, .int .i64 x.e] 85)).cell? ⟨wr.heap.size, 1, none⟩ = some (.int .i64 x.b) := (At5_new wr 85 x).2.1
          go_wp2_with (first
            | (at_builtin; with_reducible refine app_many 101 106 4 32 (.agg #[.int .i64 0, .int .i64 0, .int .i64 0, .int .i64 0]) encF encF_len encF_one Try.underlying101 infoF rfl (by decide) (by decide) rfl (.tmp 49) (.tmp 57) rfl wa.heap.size u4 (P.map f5 ++ (R.take k).map f5) rfl (hO.ext (((Ext.refl _).alloc _).alloc _)) _ [f5 x] rfl (Sl.mk1 (by simp) rfl) (by simp; omega) (by simp; exact Nat.le_trans hE.le (by omega)) ?_; intro v2 w2 hO2 hg2 hE2 hb2'; have e1 := Own.young hO hg2 (Nat.le_refl _) (((Ext.refl _).alloc _).cell hb5); have hQ2 := (hQ.ext (((Ext.refl _).alloc _).alloc _)).other hg2 (fun g hg => hQ.apart hO (by decide) g hg); have hE3 := hE2 wa (Nat.le_refl _) ((hE.alloc _).alloc _))
            | (at_builtin; with_reducible refine app_many 44 3 1 8 (.int .i64 0) enc1 enc1_len enc1_one Try.underlying44 infoI rfl (by decide) (by decide) rfl (.tmp 59) (.tmp 62) rfl wa.heap.size u5 (P.map (·.b) ++ (R.take k).map (·.b)) rfl (hQ2.ext ((Ext.refl _).alloc _)) _ [x.b] rfl (Sl.mk1 (by simp) rfl) (by simp; omega) (by simp; exact Nat.le_trans hE3.le (by omega)) ?_; intro v3 w3 hQ3 hg3 hE4 hb3'; have hO3 := (hO2.ext ((Ext.refl _).alloc _)).other hg3 (fun g hg => hO2.apart hQ2 (by decide) g hg); have hE5 := hE4 wa (Nat.le_refl _) (hE3.alloc _))
            | fail)
          go_roundw
          case rel => exact ⟨k + 1, by omega, by go_num, by rw [take_map_succ hlt HX.out, ← List.append_assoc]; exact hO3, by rw [take_map_succ hlt HX.out, ← List.append_assoc]; exact hQ3, hE5⟩
          case measure => simp [intOf]; omega
        · obtain rfl : k = R.length := by omega
          rw [List.take_length, ← List.map_append] at hO hQ
          go_wp2_with fail
          refine bodyPost_ret (v := .tuple #[u4, u5]) (by simp [results, Try.results59, go_sem]) rfl ⟨u4, u5, rfl, hO.mono (by have := hX0.le; omega), hQ.mono (by have := hX0.le; omega), hX.trans (hX0.trans hE)⟩
theorem rthings (W : World) (C P R : List Five) (v : Value) (w : World) (hX : Ext W w) (hv : Wk w v C P R) (hl : P.length + R.length ≤ 100000) :
    Calls Try.prog 59 #[v] w (ThingsPost W P R) :=
  (rthings2 W C P R v w hX hv hl).mono fun _ _ ⟨v1, v2, h1, h2, h3, h4⟩ => ⟨v1, v2, h1, h2.sl encF_len, h3.sl enc1_len, h4⟩
end Go.Proofs.Ytaggjclaehigjaa
