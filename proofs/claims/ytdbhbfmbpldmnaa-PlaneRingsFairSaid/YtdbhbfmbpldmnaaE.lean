/- The frame of a claim: the arguments read as data, read again behind the call; what a law's statement asks of a call that returns true. -/
import Derived.Test.YtdbhbfmbpldmnaaRows
import Derived.Test.YtdbhbfmbpldmnaaB
import Derived.ProofKit
import Derived.OpenShut
import Derived.ReadAgain
import Derived.ChangeSame
import Derived.Carry
import Derived.Deep.Slices
import Derived.Deep.Fields
namespace Go.Proofs.Ytdbhbfmbpldmnaa
open Go.ChangeShapes Go.WideShapes Go.ChangeAt Go.RowKit Go.Deep
set_option maxRecDepth 100000
theorem own : ownKnob Try.prog.godebug = none := by kernel_rfl
theorem kids : Kids Try.prog (· < Try.prog.types.size) := kids_rows (by kernel_rfl) (by kernel_rfl)
theorem full : ∀ t e, t < Try.prog.types.size → Try.prog.underlying t = some (.slice e) → 0 < Try.prog.cellsOf e := slices_full_of Try.prog (by kernel_rfl)
/-! closed facts of the program, asked once -/
theorem laid0 : laidOutB Try.pinned.checked.prog = true := by kernel_rfl
theorem maps0 : mapsRowed Try.pinned.checked.prog = true := by kernel_rfl
theorem heard0 : Try.pinned.checked.prog.stopsHeard = true := by kernel_rfl
theorem enter0 : Try.pinned.checked.prog.mayEnter = true := by kernel_rfl
section
variable {H : Type} {enc : TypeId × Value → H}
theorem trod_later {P : Program} {W W' : World} {base : Nat} {sp : Nat → Bool} {held : Bool} {t : TypeId} {v : Value} {d : DataW H} {ps : List MemPlace} (h : DataW.Trod enc P W base sp held t v d ps) (hb : Below W.heap.size W W') : DataW.Trod enc P W' base sp held t v d ps := by
  obtain ⟨n, hn⟩ := h
  exact ⟨n, DataW.trod_carry n t _ _ hn (fun p hp => hb.same (DataW.trod_lt n t _ _ hn p hp))⟩
theorem trodAll_later {P : Program} {W W' : World} {base : Nat} {sp : Nat → Bool} {held : Bool} (hb : Below W.heap.size W W') : ∀ {ts : List TypeId} {vs : List Value} {ds : List (DataW H)} {ps : List MemPlace}, DataW.TrodAll enc P W base sp held ts vs ds ps → DataW.TrodAll enc P W' base sp held ts vs ds ps
  | [], [], [], _, h => h
  | _ :: _, _ :: _, _ :: _, _, ⟨p, q, h1, h2, e⟩ => ⟨p, q, trod_later h1 hb, trodAll_later hb h2, e⟩
set_option maxRecDepth 100000 in
theorem law_post {f : Func} {s : ChangeSpec} {apart fresh handsOn again : Bool} {W W' : World} {args : Array Value} {ds : List (DataW H)} {before : List MemPlace}
    (hW : DataW.Whole enc Try.prog f.params.toList s.vars apart W args.toList ds [] before) (hb : Below W.heap.size W W') (hvars : s.vars = []) (hs : s.fn H (ds ++ []) = { results := [.lit (.bool true)], args := ds })
    (hT : (f.params.toList.all fun t => decide (t < Try.prog.types.size)) = true) (hr : f.resultTypes = #[4]) : s.post enc Try.prog f apart fresh handsOn again W args (.bool true) W' := by
  have hlt : ∀ p ∈ before, p.block < W.heap.size := fun p hp => hW.lt p hp
  have hold : ∀ p ∈ before, (fun b => decide (b < W.heap.size)) p.block = true := fun p hp => by simpa using hlt p hp
  have hW0 := hW
  obtain ⟨p, q, hA, hV, hpq, hz, hn⟩ := hW0
  rw [hvars] at hV
  obtain ⟨_, rfl⟩ := trodVars_none hV
  rw [List.append_nil] at hpq
  subst hpq
  have hargs : ∀ sp : Nat → Bool, (∀ p ∈ before, sp p.block = true) → DataW.TrodAll enc Try.prog W' 0 sp true f.params.toList args.toList ds before := fun sp hsp =>
    DataW.TrodAll.respare kids full (fun t ht => by simpa using List.all_eq_true.1 hT t ht) (trodAll_later hb hA) hsp
  have hres : ∀ (b : Nat) (sp : Nat → Bool) (hd : Bool), DataW.TrodAll enc Try.prog W' b sp hd f.resultTypes.toList ((Value.bool true).resultList f.resultTypes.size) [.lit (.bool true)] [] := fun b sp hd => by
    rw [hr]
    exact trodAll_mk1 (shut_bool Try.underlying4 _)
  have hvar : ∀ sp : Nat → Bool, DataW.TrodVars enc Try.prog W' sp s.vars [] [] := fun sp => by rw [hvars]; rfl
  refine ⟨ds, [], before, [], before, [], hW, by rw [hs]; exact hres _ _ _, by rw [hs]; exact hargs _ hold, by rw [hs]; exact hvar _, World.keptBut_mono (fun p hp => ⟨hp, ?_⟩) (hb.frame (· ∈ before)), fun _ => ?_⟩
  · exact Or.inr (by simpa using hp)
  · refine ⟨?_, _, _, ([] ++ before) ++ [], ⟨[] ++ before, [], trodAll_append (hargs _ (fun _ _ => rfl)) (hres _ _ _), hvar _, rfl, ?_, ?_⟩, ?_⟩
    · exact ok_one hr rfl (okWide_bool_mk Try.underlying4 _)
    · intro b off hp
      have hin : MemPlace.cell b off ∈ before := by simpa using hp
      rw [hb.frozen (hlt _ hin)]
      exact hz b off hin
    · intro ha
      simpa using hn ha
    · intro p hp _
      simpa using hp
end
/-! the arguments' values -/
def i64 (n : Int) : Prop := -9223372036854775808 ≤ n ∧ n ≤ 9223372036854775807
section
variable {P : Program} {W : World} {r : Reach} {base : Nat} {v : Value} {t : TypeId}
theorem cell_int {k : IntKind} (ht : P.underlying t = some (.int k)) (h : Cell.okWide P W r base t v) : ∃ n, v = .int k n ∧ k.min ≤ n ∧ n ≤ k.max := by
  unfold Cell.okWide Cell.ok at h
  rw [ht] at h
  cases v <;> first | exact h.elim | skip
  rename_i k' n
  obtain ⟨rfl, h1, h2⟩ := h
  exact ⟨n, rfl, h1, h2⟩
theorem open_int' {k : IntKind} (ht : P.underlying t = some (.int k)) (h : Value.okWide P W r base t v) : ∃ n, v = .int k n ∧ k.min ≤ n ∧ n ≤ k.max := by
  unfold Value.okWide at h
  rw [ht] at h
  exact cell_int ht h
theorem open_struct' {fs : Array Field} (ht : P.underlying t = some (.struct fs)) (h : Value.okWide P W r base t v) : ∃ cs, v = .agg cs ∧ cs.size = P.cellsOf t ∧ Row.okWide P W r base t cs := by
  unfold Value.okWide at h
  rw [ht] at h
  exact h
theorem open_array' {n : Nat} {e : TypeId} (ht : P.underlying t = some (.array n e)) (h : Value.okWide P W r base t v) : ∃ cs, v = .agg cs ∧ cs.size = P.cellsOf t ∧ Row.okWide P W r base t cs := by
  unfold Value.okWide at h
  rw [ht] at h
  exact h
theorem row_cells {ts : List TypeId} {cs : Array Value} (ht : P.cellTypes P.depth t = some ts) (h : Row.okWide P W r base t cs) :
    ∀ i v, cs[i]? = some v → ∃ u, ts[i % ts.length]? = some u ∧ Cell.okWide P W r base u v := by
  obtain ⟨ts', h1, _, h2⟩ := h
  rw [ht] at h1
  cases h1
  exact h2
end
theorem cell_i64 {W : World} {r : Reach} {base : Nat} {v : Value} (h : Cell.okWide Try.prog W r base 3 v) : ∃ n, v = .int .i64 n ∧ i64 n := cell_int Try.underlying3 h
theorem cell_u32 {W : World} {r : Reach} {base : Nat} {v : Value} (h : Cell.okWide Try.prog W r base 30 v) : ∃ n, v = .int .u32 n ∧ 0 ≤ n ∧ n ≤ 4294967295 := cell_int Try.underlying30 h
theorem open_i64 {W : World} {base : Nat} {v : Value} (h : Value.okWide Try.prog W .any base 3 v) : ∃ n, v = .int .i64 n ∧ i64 n := open_int' Try.underlying3 h
theorem open_u32 {W : World} {base : Nat} {v : Value} (h : Value.okWide Try.prog W .any base 30 v) : ∃ n, v = .int .u32 n ∧ 0 ≤ n ∧ n ≤ 4294967295 := open_int' Try.underlying30 h
theorem types23 : Try.prog.cellTypes Try.prog.depth 23 = some [3, 3] := by kernel_rfl
theorem types34 : Try.prog.cellTypes Try.prog.depth 34 = some [3, 3, 3, 3] := by kernel_rfl
theorem types52 : Try.prog.cellTypes Try.prog.depth 52 = some [3, 3, 3, 3] := by kernel_rfl
theorem types86 : Try.prog.cellTypes Try.prog.depth 86 = some [30, 30] := by kernel_rfl
theorem cells23 : Try.prog.cellsOf 23 = 2 := by kernel_rfl
theorem cells34 : Try.prog.cellsOf 34 = 4 := by kernel_rfl
theorem cells52 : Try.prog.cellsOf 52 = 4 := by kernel_rfl
theorem cells86 : Try.prog.cellsOf 86 = 2 := by kernel_rfl
theorem two_of {cs : Array Value} (h : cs.size = 2) : ∃ a b, cs = #[a, b] := by
  obtain ⟨l⟩ := cs
  match l, h with
  | [a, b], _ => exact ⟨a, b, rfl⟩
theorem four_of {cs : Array Value} (h : cs.size = 4) : ∃ a b c d, cs = #[a, b, c, d] := by
  obtain ⟨l⟩ := cs
  match l, h with
  | [a, b, c, d], _ => exact ⟨a, b, c, d, rfl⟩
theorem open_pt {W : World} {base : Nat} {v : Value} (h : Value.okWide Try.prog W .any base 23 v) : ∃ x y, v = .agg #[.int .i64 x, .int .i64 y] ∧ i64 x ∧ i64 y := by
  obtain ⟨cs, rfl, hs, hr⟩ := open_struct' Try.underlying23 h
  rw [cells23] at hs
  obtain ⟨a, b, rfl⟩ := two_of hs
  have hc := row_cells types23 hr
  obtain ⟨u, hu, ha⟩ := hc 0 a rfl
  obtain rfl := Option.some.inj hu
  obtain ⟨x, rfl, hx⟩ := cell_i64 ha
  obtain ⟨u, hu, hb⟩ := hc 1 b rfl
  obtain rfl := Option.some.inj hu
  obtain ⟨y, rfl, hy⟩ := cell_i64 hb
  exact ⟨x, y, rfl, hx, hy⟩
theorem open_four {W : World} {base : Nat} {cs : Array Value} {t : TypeId} (ht : Try.prog.cellTypes Try.prog.depth t = some [3, 3, 3, 3]) (hs : cs.size = 4) (hr : Row.okWide Try.prog W .any base t cs) : ∃ x y z u, cs = #[.int .i64 x, .int .i64 y, .int .i64 z, .int .i64 u] ∧ (i64 x ∧ i64 y) ∧ i64 z ∧ i64 u := by
  obtain ⟨a, b, c, d, rfl⟩ := four_of hs
  have hc := row_cells ht hr
  obtain ⟨u, hu, ha⟩ := hc 0 a rfl
  obtain rfl := Option.some.inj hu
  obtain ⟨x, rfl, hx⟩ := cell_i64 ha
  obtain ⟨u, hu, hb⟩ := hc 1 b rfl
  obtain rfl := Option.some.inj hu
  obtain ⟨y, rfl, hy⟩ := cell_i64 hb
  obtain ⟨u, hu, hcc⟩ := hc 2 c rfl
  obtain rfl := Option.some.inj hu
  obtain ⟨z, rfl, hz⟩ := cell_i64 hcc
  obtain ⟨u, hu, hd⟩ := hc 3 d rfl
  obtain rfl := Option.some.inj hu
  obtain ⟨k, rfl, hk⟩ := cell_i64 hd
  exact ⟨x, y, z, k, rfl, ⟨hx, hy⟩, hz, hk⟩
theorem open_seg {W : World} {base : Nat} {v : Value} (h : Value.okWide Try.prog W .any base 34 v) : ∃ x y z u, v = .agg #[.int .i64 x, .int .i64 y, .int .i64 z, .int .i64 u] ∧ (i64 x ∧ i64 y) ∧ i64 z ∧ i64 u := by
  obtain ⟨cs, rfl, hs, hr⟩ := open_struct' Try.underlying34 h
  obtain ⟨x, y, z, u, rfl, k⟩ := open_four types34 (hs.trans cells34) hr
  exact ⟨x, y, z, u, rfl, k⟩
theorem open_box {W : World} {base : Nat} {v : Value} (h : Value.okWide Try.prog W .any base 52 v) : ∃ x y z u, v = .agg #[.int .i64 x, .int .i64 y, .int .i64 z, .int .i64 u] ∧ (i64 x ∧ i64 y) ∧ i64 z ∧ i64 u := by
  obtain ⟨cs, rfl, hs, hr⟩ := open_struct' Try.underlying52 h
  obtain ⟨x, y, z, u, rfl, k⟩ := open_four types52 (hs.trans cells52) hr
  exact ⟨x, y, z, u, rfl, k⟩
theorem open_u2 {W : World} {base : Nat} {v : Value} (h : Value.okWide Try.prog W .any base 86 v) : ∃ x y, v = .agg #[.int .u32 x, .int .u32 y] ∧ (0 ≤ x ∧ x ≤ 4294967295) ∧ 0 ≤ y ∧ y ≤ 4294967295 := by
  obtain ⟨cs, rfl, hs, hr⟩ := open_array' Try.underlying86 h
  rw [cells86] at hs
  obtain ⟨a, b, rfl⟩ := two_of hs
  have hc := row_cells types86 hr
  obtain ⟨u, hu, ha⟩ := hc 0 a rfl
  obtain rfl := Option.some.inj hu
  obtain ⟨x, rfl, hx⟩ := cell_u32 ha
  obtain ⟨u, hu, hb⟩ := hc 1 b rfl
  obtain rfl := Option.some.inj hu
  obtain ⟨y, rfl, hy⟩ := cell_u32 hb
  exact ⟨x, y, rfl, hx, hy⟩
end Go.Proofs.Ytdbhbfmbpldmnaa
