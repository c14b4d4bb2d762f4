/- Clashes and Clash, the pairs told by a function. -/
import Derived.Test.YtaggjclaehigjaaN7
import Derived.Test.YtaggjclaehigjaaP6
namespace Go.Proofs.Ytaggjclaehigjaa
open Go.RowKit
open Classical in
/-- the sorted pairs of a chain -/
noncomputable def clF (P R : List Five) (c : Five) : List (Int × Int) := if h : ∃ l, ClC P R c l then h.choose else []
theorem clF_eq {C P R : List Five} {id : Int} {c : Five} (g : Good C P R) (hf : findC C id = some c) {l : List (Int × Int)} (h : ClC P R c l) : l = clF P R c := by
  have hx : ∃ l, ClC P R c l := ⟨l, h⟩
  unfold clF
  rw [dif_pos hx]
  exact cl_unique g hf h hx.choose_spec
theorem clash_any (W : World) (C P R : List Five) (v : Value) (w : World) (hX : Ext W w) (hv : Wk w v C P R) :
    Calls Try.prog 29 #[v] w fun e w' => e = .returned (clashV (clsL C P R (clF P R)) (chk C P R)) ∧ Ext W w' :=
  Clash_any W C P R v (clF P R) w hX hv fun hE _ hc _ h => clF_eq (chk_zero.1 hE) (find_self (chk_zero.1 hE) hc) h
theorem clashesL_any (W : World) (C P R : List Five) (v : Value) (w : World) (hX : Ext W w) (hv : Wk w v C P R) :
    Calls Try.prog 75 #[v] w fun e w' => (∃ v', e = .returned (.tuple #[v', .int .i64 (chk C P R)]) ∧ Sl 2 encI w' v' (clsL C P R (clF P R))) ∧ Ext W w' :=
  Clashes_any W C P R v (clF P R) w hX hv fun hE _ hc _ h => clF_eq (chk_zero.1 hE) (find_self (chk_zero.1 hE) hc) h
end Go.Proofs.Ytaggjclaehigjaa
