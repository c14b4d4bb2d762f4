/- Plain law of ChainageProves: in which year a further proof helps most. Contracts of the width of a spell, of slices.Clip at things; a spell with one more proof. Contract of Prove. -/
import Derived.Test.YtaggjclaehigjaaRS
import Derived.Test.YtaggjclaehigjaaPF
import Derived.Test.YtaggjclaehigjaaK12
import Derived.Test.YtaggjclaehigjaaGR
import Derived.Deep.RegionHeld3
import Derived.Deep.DeepCutAuto
namespace Go.Proofs.Ytaggjclaehigjaa
/-- the width that Long of year y has when a further proof of year z shows n -/
def widN (P R : List Five) (c : Five) (y z n : Int) : Int :=
  limHi c.e y (innZ P R c (spellZ R c y) ++ [⟨0, z, n, n⟩]) - limLo c.e y (innZ P R c (spellZ R c y) ++ [⟨0, z, n, n⟩])
def widZ (P R : List Five) (c : Five) (y : Int) : Int := hiY P R c y - loY P R c y
def useZ (P R : List Five) (c : Five) (y z : Int) : Int :=
  if inB z (spellZ R c y).1 (spellZ R c y).2 then max (max 0 (widN P R c y z (loY P R c z))) (widN P R c y z (hiY P R c z)) else max (max 0 (widZ P R c y)) (widZ P R c y)
def bestU (u : Int → Int) (lo : Int) : Nat → Int × Int
  | 0 => (lo, u lo)
  | k + 1 => if u (lo + ((k + 1 : Nat) : Int)) < (bestU u lo k).2 then (lo + ((k + 1 : Nat) : Int), u (lo + ((k + 1 : Nat) : Int))) else bestU u lo k
/-- what Prove returns -/
def proveR (C P R : List Five) (id y lo hi : Int) : Int × Int :=
  if agE C P R id y ≠ 0 then (0, agE C P R id y)
  else if spanE C P R id lo hi ≠ 0 then (0, spanE C P R id lo hi)
  else if 60 ≤ (P.length : Int) + (R.length : Int) then (0, 2)
  else match findC C id with
    | none => (0, 0)
    | some c => ((bestU (useZ P R c y) lo (hi - lo).toNat).1, 0)
theorem lim_bd {w y : Int} {l : List Four} (hw : 0 ≤ w) (hl : ∀ t ∈ l, OkF t) : (9000 ≤ limLo w y l ∧ limLo w y l ≤ 12000) ∧ 9000 ≤ limHi w y l ∧ limHi w y l ≤ 12000 := by
  have h1 := (limLo_iff (w := w) (y := y) (m := limLo w y l) (l := l)).1 (Int.le_refl _)
  have h2 : limLo w y l ≤ 12000 := limLo_iff.2 ⟨by omega, fun t ht => by
    have := hl t ht
    unfold OkF at this
    have hm := Int.mul_nonneg hw (show 0 ≤ max 0 (t.y - y) by omega)
    unfold loZ
    omega⟩
  have h3 := (limHi_iff (w := w) (y := y) (m := limHi w y l) (l := l)).1 (Int.le_refl _)
  have h4 : 9000 ≤ limHi w y l := limHi_iff.2 ⟨by omega, fun t ht => by
    have := hl t ht
    unfold OkF at this
    have hm := Int.mul_nonneg hw (show 0 ≤ max 0 (y - t.y) by omega)
    unfold hiZ
    omega⟩
  exact ⟨⟨h1.1, h2⟩, h4, h3.1⟩
theorem use_bd {P R : List Five} {c : Five} {y z : Int} : 0 ≤ useZ P R c y z := by
  unfold useZ
  split <;> omega
theorem best_bd {u : Int → Int} {lo : Int} (h : ∀ z, 0 ≤ u z) : ∀ k, 0 ≤ (bestU u lo k).2 := by
  intro k
  induction k with
  | zero => exact h lo
  | succ k ih =>
    simp only [bestU]
    split
    · exact h _
    · exact ih
/-- the program's loop: it begins with no width at all -/
def bestP (u : Int → Int) (lo : Int) : Nat → Int × Int
  | 0 => (0, -1)
  | k + 1 => bestU u lo k
theorem bestP_step {u : Int → Int} {lo : Int} (h : ∀ z, 0 ≤ u z) (k : Nat) : bestP u lo (k + 1) = if (bestP u lo k).2 < 0 ∨ u (lo + k) < (bestP u lo k).2 then (lo + k, u (lo + k)) else bestP u lo k := by
  cases k with
  | zero => simp [bestP, bestU]
  | succ k =>
    have := best_bd h (lo := lo) k
    show (if u (lo + ((k + 1 : Nat) : Int)) < (bestU u lo k).2 then (lo + ((k + 1 : Nat) : Int), u (lo + ((k + 1 : Nat) : Int))) else bestU u lo k) = if (bestU u lo k).2 < 0 ∨ u (lo + ((k + 1 : Nat) : Int)) < (bestU u lo k).2 then (lo + ((k + 1 : Nat) : Int), u (lo + ((k + 1 : Nat) : Int))) else bestU u lo k
    by_cases g : u (lo + ((k + 1 : Nat) : Int)) < (bestU u lo k).2
    · rw [if_pos g]; exact (if_pos (.inr g)).symm
    · rw [if_neg g]; exact (if_neg (by omega)).symm
theorem bestU_step {u : Int → Int} {lo : Int} (k : Nat) : bestU u lo (k + 1) = if u (lo + ((k + 1 : Nat) : Int)) < (bestU u lo k).2 then (lo + ((k + 1 : Nat) : Int), u (lo + ((k + 1 : Nat) : Int))) else bestU u lo k := rfl
/-- the parts of a right question -/
structure ProveIs (C P R : List Five) (id y lo hi : Int) (c : Five) : Prop where
  good : Good C P R
  find : findC C id = some c
  yr : c.b ≤ y ∧ y ≤ 4000
  cl : clY P R c y = false
  rng : c.b ≤ lo ∧ lo ≤ hi ∧ hi ≤ 4000
  few : (P.length : Int) + (R.length : Int) < 60
theorem prove_cases (C P R : List Five) (id y lo hi : Int) :
    (agE C P R id y ≠ 0 ∧ proveR C P R id y lo hi = (0, agE C P R id y)) ∨ (agE C P R id y = 0 ∧ spanE C P R id lo hi ≠ 0 ∧ proveR C P R id y lo hi = (0, spanE C P R id lo hi)) ∨
    (agE C P R id y = 0 ∧ spanE C P R id lo hi = 0 ∧ 60 ≤ (P.length : Int) + (R.length : Int) ∧ proveR C P R id y lo hi = (0, 2)) ∨
    (agE C P R id y = 0 ∧ spanE C P R id lo hi = 0 ∧ ∃ c, ProveIs C P R id y lo hi c ∧ proveR C P R id y lo hi = ((bestU (useZ P R c y) lo (hi - lo).toNat).1, 0)) := by
  by_cases h1 : agE C P R id y = 0
  · by_cases h2 : spanE C P R id lo hi = 0
    · by_cases h3 : 60 ≤ (P.length : Int) + (R.length : Int)
      · exact .inr (.inr (.inl ⟨h1, h2, h3, by unfold proveR; rw [if_neg (by simpa using h1), if_neg (by simpa using h2), if_pos h3]⟩))
      · obtain ⟨c, g, hf, hy⟩ := agE_zero h1
        have hyE : yearsE C P R id lo hi = 0 := by
          by_cases hy : yearsE C P R id lo hi = 0
          · exact hy
          · rw [(span_err (gr := false) hy).1] at h2
            exact absurd h2 hy
        obtain ⟨c', _, hf', r1, r2, r3, _⟩ := years_zero hyE
        rw [hf] at hf'
        cases hf'
        have hcl : clY P R c y = false := by
          have hat : atE C P R id y = 0 := by
            by_cases hz : atE C P R id y = 0
            · exact hz
            · unfold agE at h1
              rw [if_neg hz] at h1
              exact h1
          have e := agE_at hat hf
          rw [h1] at e
          unfold clY
          cases hc : clashesB c.e (innZ P R c (spellZ R c y))
          · rfl
          · rw [hc] at e
            simp at e
        refine .inr (.inr (.inr ⟨h1, h2, c, ⟨g, hf, hy, hcl, ⟨r1, r2, r3⟩, by omega⟩, ?_⟩))
        unfold proveR
        rw [if_neg (by simpa using h1), if_neg (by simpa using h2), if_neg h3, hf]
    · exact .inr (.inl ⟨h1, h2, by unfold proveR; rw [if_neg (by simpa using h1), if_pos h2]⟩)
  · exact .inl ⟨h1, by unfold proveR; rw [if_pos h1]⟩
section
variable {C P R : List Five} {id y lo hi : Int} {c : Five}
theorem ProveIs.we (h : ProveIs C P R id y lo hi c) : 0 ≤ c.e ∧ c.e ≤ 1000 := (okC_parts (good_okT h.good h.find).2.1).2.2.2
theorem ProveIs.inn (h : ProveIs C P R id y lo hi c) {z : Int} (h1 : c.b ≤ z) (h2 : z ≤ 4000) : (∀ t ∈ innZ P R c (spellZ R c z), OkF t) ∧ (innZ P R c (spellZ R c z)).length ≤ 61 := by
  have := spell_le (R := R) h1 h2
  exact innZ_ok h.good h.find (lo := (spellZ R c z).1) (hi := (spellZ R c z).2) this.1 (by omega)
theorem ProveIs.ends (h : ProveIs C P R id y lo hi c) {z : Int} (h1 : c.b ≤ z) (h2 : z ≤ 4000) : (9000 ≤ loY P R c z ∧ loY P R c z ≤ 12000) ∧ 9000 ≤ hiY P R c z ∧ hiY P R c z ≤ 12000 := lim_bd h.we.1 (h.inn h1 h2).1
theorem ProveIs.wid (h : ProveIs C P R id y lo hi c) : 0 ≤ widZ P R c y ∧ widZ P R c y ≤ 3000 := by
  have h1 := lim_le (y := y) h.we.1 (h.inn h.yr.1 h.yr.2).1 h.cl
  have h2 := h.ends h.yr.1 h.yr.2
  unfold widZ
  have : loY P R c y ≤ hiY P R c y := h1
  omega
theorem ProveIs.okn (h : ProveIs C P R id y lo hi c) {z n : Int} (h1 : c.b ≤ z) (h2 : z ≤ 4000) (hn : 9000 ≤ n ∧ n ≤ 12000) : ∀ t ∈ innZ P R c (spellZ R c y) ++ [⟨0, z, n, n⟩], OkF t := by
  have hc := (okC_parts (good_okT h.good h.find).2.1).2.1
  intro t ht
  rcases List.mem_append.1 ht with ht | ht
  · exact (h.inn h.yr.1 h.yr.2).1 t ht
  · obtain rfl := List.mem_singleton.1 ht
    exact ⟨⟨by show 0 ≤ z; omega, h2⟩, hn.1, Int.le_refl _, hn.2⟩
theorem ProveIs.wn (h : ProveIs C P R id y lo hi c) {z n : Int} (h1 : c.b ≤ z) (h2 : z ≤ 4000) (hn : 9000 ≤ n ∧ n ≤ 12000) : -3000 ≤ widN P R c y z n ∧ widN P R c y z n ≤ 3000 := by
  have := lim_bd (y := y) h.we.1 (h.okn h1 h2 hn)
  unfold widN
  omega
end
end Go.Proofs.Ytaggjclaehigjaa
namespace Go.Proofs.Ytaggjclaehigjaa
open Go.RowKit
theorem fs_ok {w : World} {s : SpE} (h : SpOk w s) : ∀ t ∈ s.fs, OkF t := by
  intro t ht
  unfold SpE.fs at ht
  obtain ⟨x, hx, rfl⟩ := List.mem_map.1 ht
  exact h.ok x hx
def widS (s : SpE) (y : Int) : Int := limHi s.w y s.fs - limLo s.w y s.fs
set_option maxRecDepth 100000 in
set_option maxHeartbeats 1000000 in
theorem widthC_any (s : SpE) (y : Int) (b : Nat) (w : World) (hs : SpOk w s) (hc : w.cell? ⟨b, 0, none⟩ = some (.int .i64 y)) (hy1 : 0 ≤ y) (hy2 : y ≤ 4000) :
    Calls Try.prog 86 #[s.val, .pointer (some ⟨b, 0, none⟩)] w fun e w' => e = .returned (.int .i64 (widS s y)) ∧ Ext w w' := by
  have HL := Lib.hid (fun w' (q : Ext w w') => long_any w' s y w' (Ext.refl _) (hs.ext q) hy1 hy2)
  have hbd := lim_bd (y := y) hs.we.1 (fs_ok hs)
  unfold widS
  generalize limLo s.w y s.fs = lo at HL hbd ⊢
  generalize limHi s.w y s.fs = hi at HL hbd ⊢
  obtain ⟨slo, shi, sw, sa, sn, sc, sL⟩ := s
  unfold SpE.val at HL ⊢
  simp only at HL ⊢
  have hb := lt_of_cell hc
  have e1 : wrap64 (hi - lo) = hi - lo := IntWalk.wrap64_in _ (by omega)
  clear hs
  go_enter Try.func86, Try.ntmps86
  go_wp2_with (go_at_call 62; with_reducible refine (HL.out _ ((Ext.refl _).alloc _)).mono ?_; rintro e w' ⟨rfl, hX1⟩)
  go_ret
  exact ⟨rfl, (((Ext.refl _).alloc _).trans hX1).alloc _⟩
theorem enters_width : Enters 86 := fun _ _ => by kernel_rfl
set_option maxRecDepth 100000 in
set_option maxHeartbeats 1000000 in
theorem clip_any (a : Option Addr) (n cap : Nat) (w : World) (h : n ≤ cap) : Calls Try.prog 87 #[.slice a n cap] w fun e w' => e = .returned (.slice a n n) ∧ w = w' := by
  have h1 : (0 : Int) ≤ (n : Int) := by omega
  have h2 : (n : Int) ≤ (cap : Int) := by omega
  go_enter Try.func87, Try.ntmps87
  go_wp2_with fail
  go_ret
  exact ⟨by simp, rfl⟩
/-- a spell and one proof more -/
def addE (id z n : Int) : Elt := (144, v5 ⟨0, id, z, n, n⟩, prT ⟨0, id, z, n, n⟩)
theorem addE_at (w : World) (id z n : Int) : EltAt w (addE id z n) := .inr (.inl ⟨⟨0, id, z, n, n⟩, rfl, rfl⟩)
theorem SpOk.add {w w' : World} {s : SpE} {id z n : Int} {a : Option Addr} {m cap : Nat} (h : SpOk w s) (x : Ext w w') (hO : Sl 1 encE w' (.slice a m cap) (s.L ++ [addE id z n])) (hl : s.L.length ≤ 1000) (hz : 0 ≤ z ∧ z ≤ 4000) (hn : 9000 ≤ n ∧ n ≤ 12000) :
    SpOk w' ⟨s.lo, s.hi, s.w, a, m, cap, s.L ++ [addE id z n]⟩ := by
  refine ⟨hO, fun e he => ?_, fun e he => ?_, h.we, by simp; omega⟩
  · rcases List.mem_append.1 he with he | he
    · exact (h.el e he).ext x
    · obtain rfl := List.mem_singleton.1 he
      exact addE_at _ _ _ _
  · rcases List.mem_append.1 he with he | he
    · exact h.ok e he
    · obtain rfl := List.mem_singleton.1 he
      exact ⟨hz, hn.1, Int.le_refl _, hn.2⟩
section
variable {C P R : List Five} {id y lo hi : Int} {c : Five} {s : SpE}
theorem SpIs.wid (h : SpIs P R c y s) : widS s y = widZ P R c y := by
  unfold widS widZ loY hiY
  rw [limLo_perm h.fs, limHi_perm h.fs, h.we]
theorem SpIs.at_z (h : SpIs P R c y s) (hy : c.b ≤ y ∧ y ≤ 4000) {z : Int} (hz : s.lo ≤ z ∧ z ≤ s.hi) : limLo s.w z s.fs = loY P R c z ∧ limHi s.w z s.fs = hiY P R c z := by
  have e : spellZ R c z = spellZ R c y := by
    have := h.sp
    refine spellZ_same hy.1 hy.2 ?_ ?_
    · rw [← this]; exact hz.1
    · rw [← this]; exact hz.2
  unfold loY hiY
  rw [limLo_perm h.fs, limHi_perm h.fs, h.we, e]
  exact ⟨rfl, rfl⟩
theorem SpIs.wid_add (h : SpIs P R c y s) {z n : Int} {a : Option Addr} {m cap : Nat} : widS ⟨s.lo, s.hi, s.w, a, m, cap, s.L ++ [addE id z n]⟩ y = widN P R c y z n := by
  have e : (⟨s.lo, s.hi, s.w, a, m, cap, s.L ++ [addE id z n]⟩ : SpE).fs = s.fs ++ [⟨0, z, n, n⟩] := by
    unfold SpE.fs
    simp only [List.map_append, List.map_cons, List.map_nil]
    rfl
  unfold widS widN
  rw [e]
  simp only
  rw [limLo_perm (h.fs.append_right _), limHi_perm (h.fs.append_right _), h.we]
theorem SpIs.inB (h : SpIs P R c y s) (z : Int) : Go.Proofs.Ytaggjclaehigjaa.inB z (spellZ R c y).1 (spellZ R c y).2 = Go.Proofs.Ytaggjclaehigjaa.inB z s.lo s.hi := by
  rw [← h.sp]
end
end Go.Proofs.Ytaggjclaehigjaa
namespace Go.Proofs.Ytaggjclaehigjaa
open Go.RowKit
abbrev proveT (r : Int × Int) : Value := .tuple #[.int .i64 r.1, .int .i64 r.2]
theorem own_formE {base : Nat} {w : World} {v : Value} {l : List Elt} (h : Own 114 1 encE base w v l) : ∃ a n cap, v = .slice a n cap := by
  obtain ⟨a, cap, hv, -⟩ := h.sl encE_len
  exact ⟨a, _, cap, hv⟩
theorem Sl.clipE {α : Type} {k : Nat} {enc : α → List Value} {w : World} {a : Option Addr} {cap : Nat} {l : List α} (h : Sl k enc w (.slice a l.length cap) l) : Sl k enc w (.slice a l.length l.length) l := by
  have hm := h.len
  obtain ⟨a', cap', hv, h1, h2, h3⟩ := h
  injection hv with e1 e2 e3
  subst e1
  exact ⟨a, l.length, rfl, Nat.le_refl _, hm, h3⟩
/-- the greatest of the widths so far -/
def useK (a b : Int) : Nat → Int
  | 0 => 0
  | 1 => max 0 a
  | _ => max (max 0 a) b
theorem useK_step {a b l1 l2 n : Int} {f : Int → Int} {q : Nat} (hq : q < 2) (ha : a = f l1) (hb : b = f l2) (hn : n = if q = 0 then l1 else l2) : useK a b (q + 1) = max (useK a b q) (f n) := by
  match q, hq with
  | 0, _ => rw [hn, if_pos rfl, ← ha]; rfl
  | 1, _ => rw [hn, if_neg (by decide), ← hb]; rfl
set_option maxRecDepth 100000 in
set_option maxHeartbeats 16000000 in
theorem Prove_any (W : World) (C P R : List Five) (v : Value) (id y lo hi : Int) (w : World) (hX : Ext W w) (hv : Wk w v C P R) :
    Calls Try.prog 45 #[v, .int .i64 id, .int .i64 y, .agg #[.int .i64 lo, .int .i64 hi]] w fun e w' => e = .returned (proveT (proveR C P R id y lo hi)) ∧ Ext W w' := by
  have HAG := Lib.hid (fun w' (q : Ext w w') => agreed_any w' C P R v id y w' (Ext.refl _) (hv.ext q))
  have HSH := Lib.hid (fun w' (q : Ext w w') => Shortest_any w' C P R v id lo hi w' (Ext.refl _) (hv.ext q))
  have HPC := Lib.hid (prove_cases C P R id y lo hi)
  obtain ⟨vC, vP, vR, rfl, -, hP, hR, -⟩ := hv
  obtain ⟨aP, capP, rfl, -⟩ := hP.parts
  obtain ⟨aR, capR, rfl, -⟩ := hR.parts
  clear hP hR
  obtain ⟨r, hr⟩ : ∃ r, proveR C P R id y lo hi = r := ⟨_, rfl⟩
  obtain ⟨x, hx⟩ : ∃ x, wornR C P R id lo hi false = x := ⟨_, rfl⟩
  obtain ⟨m, hm⟩ : ∃ m, spanE C P R id lo hi = m := ⟨_, rfl⟩
  obtain ⟨x1, x2, x3⟩ := x
  rw [hr, hm] at HPC
  rw [hx, hm] at HSH
  rw [hr]
  clear hr hx hm
  have hX0 : Ext w (((w.alloc (.cells #[vC, .slice aP P.length capP, .slice aR R.length capR] 26)).alloc (.cells #[.int .i64 y] 3)).alloc (.cells #[.int .i64 lo, .int .i64 hi] 30)) := (((Ext.refl w).alloc _).alloc _).alloc _
  have hb0 := (((Ext.refl _).alloc (.cells #[.int .i64 y] 3)).alloc (.cells #[.int .i64 lo, .int .i64 hi] 30)).block (heap_alloc_new w (.cells #[vC, .slice aP P.length capP, .slice aR R.length capR] 26))
  have hb1 := ((Ext.refl _).alloc (.cells #[.int .i64 lo, .int .i64 hi] 30)).block (heap_alloc_new (w.alloc (.cells #[vC, .slice aP P.length capP, .slice aR R.length capR] 26)) (.cells #[.int .i64 y] 3))
  have hb2 := heap_alloc_new ((w.alloc (.cells #[vC, .slice aP P.length capP, .slice aR R.length capR] 26)).alloc (.cells #[.int .i64 y] 3)) (.cells #[.int .i64 lo, .int .i64 hi] 30)
  simp only [World.size_alloc] at hb1 hb2
  obtain ⟨B, hBB⟩ : ∃ B, w.heap.size = B := ⟨_, rfl⟩
  rw [hBB] at hb0 hb1 hb2
  go_enter Try.func45, Try.ntmps45
  go_wp2_with fail
  with_reducible refine (HAG.out _ hX0).mono ?_
  rintro e w1' ⟨hX1, (⟨hn, rfl⟩ | ⟨h0, c, s, g, hf, hy, rfl, hs, hi, -⟩)⟩
  · have HR : Hid (r = (0, agE C P R id y)) := by
      show _ = _
      rcases HPC.out with ⟨_, h⟩ | ⟨h, _⟩ | ⟨h, _⟩ | ⟨h, _⟩
      · exact h
      · exact absurd h hn
      · exact absurd h hn
      · exact absurd h hn
    obtain ⟨n, hn2⟩ : ∃ n, agE C P R id y = n := ⟨_, rfl⟩
    rw [hn2] at hn HR ⊢
    have g1 : (n == 0) = false := by simpa using hn
    have g2 : (n != 0) = true := by simp [bne, g1]
    clear HPC hn2 hn HAG HSH
    go_wp2_with fail
    refine bodyPost_ret (v := .tuple #[.int .i64 0, .int .i64 n]) (by simp [results, Try.results45, go_sem]) rfl ⟨by rw [HR.out], hX.trans ((hX0.trans hX1).alloc _)⟩
  · have HSI := Lib.hid hi
    have HWD := Lib.hid hi.wid
    have hlen : s.L.length ≤ 1000 := by
      have h1 : s.fs.length = (innZ P R c (spellZ R c y)).length := hi.fs.length_eq
      have h2 := spell_le (R := R) hy.1 hy.2
      have h3 := (innZ_ok g hf (lo := (spellZ R c y).1) (hi := (spellZ R c y).2) h2.1 (by omega)).2
      unfold SpE.fs at h1
      rw [List.length_map] at h1
      have h4 : (innZ P R c (spellZ R c y)).length ≤ 61 := h3
      omega
    have hcb := (okC_parts (good_okT g hf).2.1).2.1
    have hPR : (P.length : Int) + (R.length : Int) ≤ 60 := by have := g.few.2; omega
    have HINB := Lib.hid (fun z => hi.inB z)
    have HATZ := Lib.hid (fun (z : Int) hz => hi.at_z hy (z := z) hz)
    have HADD := Lib.hid (fun (z n : Int) (a : Option Addr) (m cap : Nat) => hi.wid_add (id := id) (z := z) (n := n) (a := a) (m := m) (cap := cap))
    have HSO := Lib.hid hs
    obtain ⟨hsn, hsl, -⟩ := hs.parts
    have HSN0 : Hid (s.a = none → s.L.length = 0) := by
      intro e
      obtain ⟨_, _, h⟩ := hs.parts
      rcases h with h | ⟨b, off, h, _⟩
      · rw [h]; rfl
      · rw [e] at h; cases h
    have HF := Lib.hid hf
    clear hs hi g hf
    obtain ⟨slo, shi, sw, sa, sn, sc, sL⟩ := s
    unfold SpE.val
    simp only at hlen hsn hsl HINB HATZ HADD HSN0 ⊢
    subst hsn
    have hE1 := (hX0.trans hX1).alloc (.cells #[.int .i64 slo, .int .i64 shi, .int .i64 sw, .slice sa sL.length sc] 88)
    replace hb0 := ((Ext.refl w1').alloc (.cells #[.int .i64 slo, .int .i64 shi, .int .i64 sw, .slice sa sL.length sc] 88)).block (hX1.block hb0)
    replace hb1 := ((Ext.refl w1').alloc (.cells #[.int .i64 slo, .int .i64 shi, .int .i64 sw, .slice sa sL.length sc] 88)).block (hX1.block hb1)
    replace hb2 := ((Ext.refl w1').alloc (.cells #[.int .i64 slo, .int .i64 shi, .int .i64 sw, .slice sa sL.length sc] 88)).block (hX1.block hb2)
    replace HSO := Lib.hid (HSO.out.ext ((Ext.refl w1').alloc (.cells #[.int .i64 slo, .int .i64 shi, .int .i64 sw, .slice sa sL.length sc] 88)))
    have hbN := heap_alloc_new w1' (.cells #[.int .i64 slo, .int .i64 shi, .int .i64 sw, .slice sa sL.length sc] 88)
    obtain ⟨N, hN⟩ : ∃ A, w1'.heap.size = A := ⟨_, rfl⟩
    clear hX0 hX1 HAG
    go_upto_region 2 with fail
    rw [hN] at hbN
    obtain ⟨w1, hw1⟩ : ∃ w0, w1'.alloc (.cells #[.int .i64 slo, .int .i64 shi, .int .i64 sw, .slice sa sL.length sc] 88) = w0 := ⟨_, rfl⟩
    rw [hw1] at hE1 hbN hb0 hb1 hb2 HSO ⊢
    clear hw1 hN
    obtain ⟨k0, k1, k2⟩ := box3' hb0
    obtain ⟨i0, i1⟩ := box2 hb2
    go_wp2_with fail
    with_reducible refine (HSH.out _ hE1).mono ?_
    rintro e w2' ⟨⟨u, rfl, hI⟩, hX2⟩
    obtain ⟨ua, uc, rfl, -⟩ := Ints.parts (hI.sl enc1_len)
    have hE2 := (hE1.trans hX2).alloc (.cells #[.int .i64 x1, .int .i64 x2, .slice ua x3.length uc] 46)
    replace hb0 := ((Ext.refl w2').alloc (.cells #[.int .i64 x1, .int .i64 x2, .slice ua x3.length uc] 46)).block (hX2.block hb0)
    replace hb1 := ((Ext.refl w2').alloc (.cells #[.int .i64 x1, .int .i64 x2, .slice ua x3.length uc] 46)).block (hX2.block hb1)
    replace hb2 := ((Ext.refl w2').alloc (.cells #[.int .i64 x1, .int .i64 x2, .slice ua x3.length uc] 46)).block (hX2.block hb2)
    replace hbN := ((Ext.refl w2').alloc (.cells #[.int .i64 x1, .int .i64 x2, .slice ua x3.length uc] 46)).block (hX2.block hbN)
    replace HSO := Lib.hid ((HSO.out.ext hX2).ext ((Ext.refl w2').alloc (.cells #[.int .i64 x1, .int .i64 x2, .slice ua x3.length uc] 46)))
    clear k0 k1 k2 i0 i1 hX2 hI HSH hE1
    go_upto_region 5 with fail
    obtain ⟨w2, hw2⟩ : ∃ w0, w2'.alloc (.cells #[.int .i64 x1, .int .i64 x2, .slice ua x3.length uc] 46) = w0 := ⟨_, rfl⟩
    rw [hw2] at hE2 hbN hb0 hb1 hb2 HSO ⊢
    clear hw2
    obtain ⟨k0, k1, k2⟩ := box3' hb0
    by_cases hm : m = 0
    · subst hm
      have e64 : IntKind.i64.wrap ((P.length : Int) + (R.length : Int)) = (P.length : Int) + (R.length : Int) := wrap_in (by omega)
      by_cases h60 : 60 ≤ (P.length : Int) + (R.length : Int)
      · have HR : Hid (r = (0, 2)) := by
          show _ = _
          rcases HPC.out with ⟨h, _⟩ | ⟨_, h, _⟩ | ⟨_, _, _, h⟩ | ⟨_, _, c', h, _⟩
          · exact absurd h0 h
          · exact absurd rfl h
          · exact h
          · have := h.few; omega
        clear HPC h0
        go_wp2_with fail
        refine bodyPost_ret (v := .tuple #[.int .i64 0, .int .i64 2]) (by simp [results, Try.results45, go_sem]) rfl ⟨by rw [HR.out], hX.trans hE2⟩
      · obtain ⟨hPI, hre⟩ : ProveIs C P R id y lo hi c ∧ r = ((bestU (useZ P R c y) lo (hi - lo).toNat).1, 0) := by
          rcases HPC.out with ⟨h, _⟩ | ⟨_, h, _⟩ | ⟨_, _, h, _⟩ | ⟨_, _, c', h, h2⟩
          · exact absurd h0 h
          · exact absurd rfl h
          · exact absurd h h60
          · have := h.find
            rw [HF.out] at this
            cases this
            exact ⟨h, h2⟩
        have HPI := Lib.hid hPI
        have HRE := Lib.hid hre
        have hrg := hPI.rng
        have hwz := hPI.wid
        have HUB := Lib.hid (fun z => use_bd (P := P) (R := R) (c := c) (y := y) (z := z))
        have HWC : Hid (∀ w', Ext w2 w' → Calls Try.prog 86 #[.agg #[.int .i64 slo, .int .i64 shi, .int .i64 sw, .slice sa sL.length sc], .pointer (some ⟨B + 1, 0, none⟩)] w' fun e w'' => e = .returned (.int .i64 (widZ P R c y)) ∧ Ext w' w'') := by
          intro w' q
          have := widthC_any _ y (B + 1) w' (HSO.out.ext q) (q.cell (cell_at hb1 0)) (by omega) (by omega)
          rw [HWD.out] at this
          exact this
        have HLN : Hid (∀ z, 0 ≤ z → z ≤ 4000 → ∀ w', Ext w2 w' → Calls Try.prog 62 #[.agg #[.int .i64 slo, .int .i64 shi, .int .i64 sw, .slice sa sL.length sc], .int .i64 z] w' fun e w'' => e = .returned (.agg #[.int .i64 (limLo sw z (SpE.fs ⟨slo, shi, sw, sa, sL.length, sc, sL⟩)), .int .i64 (limHi sw z (SpE.fs ⟨slo, shi, sw, sa, sL.length, sc, sL⟩))]) ∧ Ext w' w'') := fun z z1 z2 w' q => long_any w' _ z w' (Ext.refl _) (HSO.out.ext q) z1 z2
        have HY1 : Hid (∀ w', Ext w2 w' → w'.cell? ⟨B + 1, 0, none⟩ = some (.int .i64 y)) := fun w' q => q.cell (cell_at hb1 0)
        obtain ⟨wd, hwd⟩ : ∃ wd, widZ P R c y = wd := ⟨_, rfl⟩
        rw [hwd] at HWC hwz
        have HWD2 := Lib.hid hwd
        obtain ⟨q, hq⟩ : ∃ q : Nat, hi - lo + 1 = (q : Int) := ⟨(hi - lo + 1).toNat, by omega⟩
        have HQ := Lib.hid hq
        have hq1 : hi = lo + (q : Int) - 1 := by omega
        have HQ1 := Lib.hid hq1
        clear HPC h0 hPI hre hwd HWD hq hq1
        obtain ⟨i0, i1⟩ := box2 hb2
        go_wp2_with fail
        clear k0 k1 k2 i0 i1 h60 e64 hPR
        go_loopw [15, 16, 17] (fun s15 s16 s17 wr => ∃ k : Nat, k ≤ q ∧ s17 = .int .i64 (lo + (k : Int)) ∧ s15 = .int .i64 (bestP (useZ P R c y) lo k).1 ∧ s16 = .int .i64 (bestP (useZ P R c y) lo k).2 ∧ Ext w2 wr) (fun _ _ z _ => (lo + (q : Int) - intOf z).toNat)
        case atStart => exact ⟨0, Nat.zero_le _, by simp, rfl, rfl, Ext.refl _⟩
        case round =>
          obtain ⟨k, hk, rfl, rfl, rfl, hE⟩ := hrel
          obtain ⟨i0, i1⟩ := box2 (hE.block hb2)
          obtain ⟨z, hz⟩ : ∃ z, lo + (k : Int) = z := ⟨_, rfl⟩
          rw [hz]
          have HZ := Lib.hid hz
          by_cases hlt : k < q
          · have hz1 : lo ≤ z ∧ z ≤ hi := by have := HQ.out; omega
            have hz2 : 0 ≤ z ∧ z ≤ 4000 := by omega
            have HST := Lib.hid (bestP_step (u := useZ P R c y) (lo := lo) (fun z => use_bd) k)
            rw [hz] at HST
            obtain ⟨bp, hbp⟩ : ∃ bp, bestP (useZ P R c y) lo k = bp := ⟨_, rfl⟩
            rw [hbp] at HST ⊢
            obtain ⟨b1, b2⟩ := bp
            obtain ⟨U, hU⟩ : ∃ U, useZ P R c y z = U := ⟨_, rfl⟩
            have hU0 := HUB.out z
            rw [hU] at HST hU0
            have HU := Lib.hid hU
            obtain ⟨n0, n1, n2, n3⟩ := box4 (hE.block hbN)
            clear hz hbp hU
            obtain ⟨w3, rfl⟩ : ∃ w', w' = wr := ⟨_, rfl⟩
            go_upto_if 70 with (first
              | (go_at_call 86; with_reducible refine (HWC.out _ hE).mono ?_; rintro e w4 ⟨rfl, hX4⟩; obtain ⟨n0, n1, n2, n3⟩ := box4 ((hE.trans hX4).block hbN))
              | (go_at_call 53; with_reducible refine (within_any _ _ _ _).mono ?_; rintro e w' ⟨rfl, rfl⟩))
            have hE4 := hE.trans hX4
            clear hE hX4 n0 n1 n2 n3 i0 i1
            go_cut [18] (fun u wx => u = .int .i64 U ∧ Ext w2 wx)
            case first =>
              have hib := HINB.out z
              cases hin : inB z slo shi
              · rw [hin] at hib
                have HUU : Hid (U = wd) := by
                  show _ = _
                  rw [← HU.out]
                  unfold useZ
                  rw [hib, HWD2.out]
                  simp only [Bool.false_eq_true, if_false]
                  omega
                clear hib
                go_wp2_with fail
                go_meet
                case rel => exact ⟨by rw [HUU.out], hE4⟩
              · rw [hin] at hib
                have hin2 := inB_iff.1 hin
                obtain ⟨et1, et2⟩ := HATZ.out z hin2
                have hcz : c.b ≤ z := by omega
                have hen := HPI.out.ends (z := z) hcz hz2.2
                have HLZ := Lib.hid (HLN.out z hz2.1 hz2.2)
                rw [et1, et2] at HLZ
                obtain ⟨l1, hl1⟩ : ∃ l, loY P R c z = l := ⟨_, rfl⟩
                obtain ⟨l2, hl2⟩ : ∃ l, hiY P R c z = l := ⟨_, rfl⟩
                rw [hl1, hl2] at HLZ hen
                have HUU : Hid (U = useK (widN P R c y z l1) (widN P R c y z l2) 2) := by
                  show _ = _
                  rw [← HU.out, ← hl1, ← hl2]
                  unfold useZ
                  rw [hib]
                  rfl
                have HWN := Lib.hid (fun n (h1 : 9000 ≤ n ∧ n ≤ 12000) => HPI.out.wn (z := z) (n := n) hcz hz2.2 h1)
                clear hib et1 et2 hl1 hl2
                obtain ⟨n0, n1, n2, n3⟩ := box4 (hE4.block hbN)
                go_upto_region 17 with fail
                go_wp2_with fail
                with_reducible refine (HLZ.out _ hE4).mono ?_
                rintro e w5' ⟨rfl, hX5⟩
                have hE5 := (hE4.trans hX5).alloc (.cells #[.int .i64 l1, .int .i64 l2] 30)
                have hbL := heap_alloc_new w5' (.cells #[.int .i64 l1, .int .i64 l2] 30)
                obtain ⟨A, hA⟩ : ∃ A, w5'.heap.size = A := ⟨_, rfl⟩
                clear n0 n1 n2 n3 hX5 hE4
                go_upto_region 18 with fail
                rw [hA] at hbL
                obtain ⟨w5, hw5⟩ : ∃ w0, w5'.alloc (.cells #[.int .i64 l1, .int .i64 l2] 30) = w0 := ⟨_, rfl⟩
                rw [hw5] at hE5 hbL ⊢
                clear hw5 hA
                obtain ⟨j0, j1⟩ := box2 hbL
                have hE6 := hE5.alloc (.cells #[.int .i64 l1, .int .i64 l2] 3)
                have hbI := heap_alloc_new w5 (.cells #[.int .i64 l1, .int .i64 l2] 3)
                obtain ⟨I, hI⟩ : ∃ A, w5.heap.size = A := ⟨_, rfl⟩
                go_wp2_with fail
                rw [hI] at hbI
                obtain ⟨w6, hw6⟩ : ∃ w0, w5.alloc (.cells #[.int .i64 l1, .int .i64 l2] 3) = w0 := ⟨_, rfl⟩
                rw [hw6] at hE6 hbI ⊢
                clear hw6 hI j0 j1 hbL hE5
                go_loopw [18, 80] (fun u i wr => ∃ q : Nat, q ≤ 2 ∧ i = .int .i64 (q : Int) ∧ u = .int .i64 (useK (widN P R c y z l1) (widN P R c y z l2) q) ∧ Ext w6 wr) (fun _ i _ => 2 - (intOf i).toNat)
                case atStart => exact ⟨0, by omega, rfl, rfl, Ext.refl _⟩
                case round =>
                  obtain ⟨q2, hq2, rfl, rfl, hE⟩ := hrel
                  by_cases hlq : q2 < 2
                  · have hIc : ∃ n, n = (if q2 = 0 then l1 else l2) ∧ wr.cell? ⟨I, q2, none⟩ = some (.int .i64 n) := by
                      obtain ⟨j0, j1⟩ := box2 (hE.block hbI)
                      have : q2 = 0 ∨ q2 = 1 := by omega
                      rcases this with rfl | rfl
                      · exact ⟨l1, rfl, j0⟩
                      · exact ⟨l2, rfl, j1⟩
                    obtain ⟨n, hn, cI⟩ := hIc
                    have hnr : 9000 ≤ n ∧ n ≤ 12000 := by rw [hn]; split <;> omega
                    have HSTP := Lib.hid (useK_step (f := widN P R c y z) hlq rfl rfl hn)
                    have hwn := HWN.out n hnr
                    obtain ⟨ww, hww⟩ : ∃ ww, widN P R c y z n = ww := ⟨_, rfl⟩
                    rw [hww] at HSTP hwn
                    obtain ⟨uu, huu⟩ : ∃ uu, useK (widN P R c y z l1) (widN P R c y z l2) q2 = uu := ⟨_, rfl⟩
                    rw [huu] at HSTP ⊢
                    have HWA : Hid (∀ w' a m cap, Ext w2 w' → Sl 1 encE w' (.slice a m cap) (sL ++ [addE id z n]) → Calls Try.prog 86 #[.agg #[.int .i64 slo, .int .i64 shi, .int .i64 sw, .slice a m cap], .pointer (some ⟨B + 1, 0, none⟩)] w' fun e w'' => e = .returned (.int .i64 ww) ∧ Ext w' w'') := by
                      intro w' a m cap x hS
                      have := widthC_any ⟨slo, shi, sw, a, m, cap, sL ++ [addE id z n]⟩ y (B + 1) w' (SpOk.add (HSO.out.ext x) (Ext.refl _) hS hlen hz2 hnr) (HY1.out w' x) (by omega) (by omega)
                      rw [HADD.out z n a m cap, hww] at this
                      exact this
                    have hwr := hE6.trans hE
                    have hEq := hwr.alloc (.cells #[.int .i64 0, .int .i64 id, .int .i64 z, .int .i64 n, .int .i64 n] 72)
                    have hbQ := heap_alloc_new wr (.cells #[.int .i64 0, .int .i64 id, .int .i64 z, .int .i64 n, .int .i64 n] 72)
                    obtain ⟨Q, hQ⟩ : ∃ A, wr.heap.size = A := ⟨_, rfl⟩
                    have hlq2 : (q2 : Int) < 2 := by omega
                    clear hn hww huu
                    go_upto_region 22 with fail
                    rw [hQ] at hbQ
                    obtain ⟨wq, hwq⟩ : ∃ w0, wr.alloc (.cells #[.int .i64 0, .int .i64 id, .int .i64 z, .int .i64 n, .int .i64 n] 72) = w0 := ⟨_, rfl⟩
                    have hEr : Ext w6 wq := by rw [← hwq]; exact hE.alloc _
                    rw [hwq] at hEq hbQ ⊢
                    clear hwq hQ cI hE hwr
                    obtain ⟨n0, n1, n2, n3⟩ := box4 (hEq.block hbN)
                    obtain ⟨y0, y1, y2, y3, y4⟩ := box5 hbQ
                    have hK2 : ∀ w', Ext wq w' → (fun w' => Ext wq w' ∧ (N < w'.heap.size ∧ Q < w'.heap.size) ∧ (w'.cell? ⟨N, 0, none⟩ = some (.int .i64 slo) ∧ w'.cell? ⟨N, 1, none⟩ = some (.int .i64 shi) ∧ w'.cell? ⟨N, 2, none⟩ = some (.int .i64 sw) ∧ w'.cell? ⟨N, 3, none⟩ = some (.slice sa sL.length sc)) ∧ (w'.cell? ⟨Q, 0, none⟩ = some (.int .i64 0) ∧ w'.cell? ⟨Q, 1, none⟩ = some (.int .i64 id) ∧ w'.cell? ⟨Q, 2, none⟩ = some (.int .i64 z) ∧ w'.cell? ⟨Q, 3, none⟩ = some (.int .i64 n) ∧ w'.cell? ⟨Q, 4, none⟩ = some (.int .i64 n))) w' := fun w' x => ⟨x, ⟨lt_of_cell (x.cell n0), lt_of_cell (x.cell y0)⟩, ⟨x.cell n0, x.cell n1, x.cell n2, x.cell n3⟩, ⟨x.cell y0, x.cell y1, x.cell y2, x.cell y3, x.cell y4⟩⟩
                    have HK2 := Lib.hid hK2
                    have HSC : Hid (∀ w', Ext wq w' → Sl 1 encE w' (.slice sa sL.length sL.length) sL) := fun w' x => Sl.clipE ((HSO.out.ext (hEq.trans x)).sl)
                    have HSN : Hid (sa = none → sL.length = 0) := HSN0.out
                    have hq0 : Ext wq wq := Ext.refl _
                    have qm2 := ite_max
                    clear hK2
                    go_region_held3 (fun w' => Ext wq w' ∧ (N < w'.heap.size ∧ Q < w'.heap.size) ∧ (w'.cell? ⟨N, 0, none⟩ = some (.int .i64 slo) ∧ w'.cell? ⟨N, 1, none⟩ = some (.int .i64 shi) ∧ w'.cell? ⟨N, 2, none⟩ = some (.int .i64 sw) ∧ w'.cell? ⟨N, 3, none⟩ = some (.slice sa sL.length sc)) ∧ (w'.cell? ⟨Q, 0, none⟩ = some (.int .i64 0) ∧ w'.cell? ⟨Q, 1, none⟩ = some (.int .i64 id) ∧ w'.cell? ⟨Q, 2, none⟩ = some (.int .i64 z) ∧ w'.cell? ⟨Q, 3, none⟩ = some (.int .i64 n) ∧ w'.cell? ⟨Q, 4, none⟩ = some (.int .i64 n))) (first | with_reducible exact HK2.out _ hq7 | with_reducible exact HK2.out _ hq6 | with_reducible exact HK2.out _ hq0 | with_reducible exact HK2.out _ hq0.drew | with_reducible exact HK2.out _ (hq0.alloc _) | with_reducible exact HK2.out _ (hq0.alloc _).drew | with_reducible exact HK2.out _ (hq0.drew.alloc _))
                      ((first
                        | (go_at_call 87; with_reducible refine (clip_any _ _ _ _ hsl).mono ?_; rintro e w' ⟨rfl, rfl⟩)
                        | (with_reducible refine step_full 86 114 1 16 .nilIface encE encE_len encE_one Try.underlying86 infoT rfl (by decide) (by decide) rfl (.tmp 98) (.tmp 102) rfl sa sL.length sL.length sL rfl rfl (HSC.out _ (hq0.drew.alloc _)) HSN.out (.slice (some ⟨wq.heap.size, 0, none⟩) 1 1) [addE id z n] rfl (Sl.mk1 rfl rfl) (by simp) (by simp) (by simp; omega) ?_; intro v6 w6 hO6 hE6; obtain ⟨a6, n6, c6, rfl⟩ := own_formE hO6; have hq6 : Ext wq w6 := Ext.trans (hq0.drew.alloc _) hE6; have hS6 := hO6.sl encE_len)
                        | (with_reducible refine step_full 86 114 1 16 .nilIface encE encE_len encE_one Try.underlying86 infoT rfl (by decide) (by decide) rfl (.tmp 98) (.tmp 102) rfl sa sL.length sL.length sL rfl rfl (HSC.out _ ((hq0.alloc _).drew)) HSN.out (.slice (some ⟨wq.heap.size, 0, none⟩) 1 1) [addE id z n] rfl ((Sl.mk1 rfl rfl).ext ((Ext.refl _).drew)) (by simp) (by simp) (by simp; omega) ?_; intro v6 w6 hO6 hE6; obtain ⟨a6, n6, c6, rfl⟩ := own_formE hO6; have hq6 : Ext wq w6 := Ext.trans ((hq0.alloc _).drew) hE6; have hS6 := hO6.sl encE_len)
                        | (go_at_call 86; with_reducible refine (HWA.out _ _ _ _ (hEq.trans hq6) hS6).mono ?_; rintro e w7 ⟨rfl, hX7⟩; have hq7 : Ext wq w7 := Ext.trans hq6 hX7)))
                    all_goals
                      go_wp2_with fail
                      go_roundw
                      case rel => exact ⟨q2 + 1, by omega, by go_num, by rw [HSTP.out], hEr.trans hq7⟩
                      case measure => simp [intOf]; omega
                  · obtain rfl : q2 = 2 := by omega
                    go_wp2_with fail
                    go_meet
                    case rel => exact ⟨by rw [HUU.out], hE6.trans hE⟩
            case rest =>
            obtain ⟨rfl, hE⟩ := hcut
            obtain ⟨w7, rfl⟩ : ∃ w', w' = wc := ⟨_, rfl⟩
            have hcs : b2 < 0 ∨ (¬ b2 < 0 ∧ U < b2) ∨ (¬ b2 < 0 ∧ ¬ U < b2) := by omega
            rcases hcs with h1 | ⟨h1, h2⟩ | ⟨h1, h2⟩
            · have HS2 : Hid (bestP (useZ P R c y) lo (k + 1) = (z, U)) := by show _ = _; rw [HST.out]; exact if_pos (.inl h1)
              go_wp2_with fail
              go_roundw
              case rel => exact ⟨k + 1, by omega, by rw [show lo + ((k + 1 : Nat) : Int) = z + 1 by have := HZ.out; omega], by rw [HS2.out], by rw [HS2.out], hE⟩
              case measure => have := HZ.out; simp [intOf]; omega
            · have HS2 : Hid (bestP (useZ P R c y) lo (k + 1) = (z, U)) := by show _ = _; rw [HST.out]; exact if_pos (.inr h2)
              go_wp2_with fail
              go_roundw
              case rel => exact ⟨k + 1, by omega, by rw [show lo + ((k + 1 : Nat) : Int) = z + 1 by have := HZ.out; omega], by rw [HS2.out], by rw [HS2.out], hE⟩
              case measure => have := HZ.out; simp [intOf]; omega
            · have HS2 : Hid (bestP (useZ P R c y) lo (k + 1) = (b1, b2)) := by show _ = _; rw [HST.out]; exact if_neg (fun h => h.elim h1 h2)
              go_wp2_with fail
              go_roundw
              case rel => exact ⟨k + 1, by omega, by rw [show lo + ((k + 1 : Nat) : Int) = z + 1 by have := HZ.out; omega], by rw [HS2.out], by rw [HS2.out], hE⟩
              case measure => have := HZ.out; simp [intOf]; omega
          · obtain rfl : k = q := by omega
            have hz3 : hi < z := by have := HQ.out; omega
            have hz4 : ¬ z ≤ hi := by omega
            have HB : Hid ((bestP (useZ P R c y) lo k).1 = (bestU (useZ P R c y) lo (hi - lo).toNat).1) := by
              show _ = _
              have : k = (hi - lo).toNat + 1 := by have := HQ.out; omega
              rw [this]
              rfl
            go_wp2_with fail
            refine bodyPost_ret (v := .tuple #[.int .i64 (bestP (useZ P R c y) lo k).1, .int .i64 0]) (by simp [results, Try.results45, go_sem]) rfl ⟨by rw [HRE.out, HB.out], hX.trans (hE2.trans hE)⟩
    · have HR : Hid (r = (0, m)) := by
        show _ = _
        rcases HPC.out with ⟨h, _⟩ | ⟨_, _, h⟩ | ⟨_, h, _⟩ | ⟨_, h, _⟩
        · exact absurd h0 h
        · exact h
        · exact absurd h hm
        · exact absurd h hm
      have g1 : (m == 0) = false := by simpa using hm
      have g2 : (m != 0) = true := by simp [bne, g1]
      clear HPC h0 hm
      go_wp2_with fail
      refine bodyPost_ret (v := .tuple #[.int .i64 0, .int .i64 m]) (by simp [results, Try.results45, go_sem]) rfl ⟨by rw [HR.out], hX.trans hE2⟩
end Go.Proofs.Ytaggjclaehigjaa
