/- Things: values of an interface; contracts of their methods, begins, year. -/
import Derived.Test.YtaggjclaehigjaaC
namespace Go.Proofs.Ytaggjclaehigjaa
open Go.RowKit
/-- a thing: its kind (0 the making, 1 a proof, 2 a repair), its number, its year, its span -/
structure Th where
  k : Nat
  i : Int
  y : Int
  lo : Int
  hi : Int
instance : Inhabited Th := ⟨⟨0, 0, 0, 0, 0⟩⟩
def mkT (c : Five) : Th := ⟨0, 0, c.b, c.c, c.d⟩
def prT (p : Five) : Th := ⟨1, p.a, p.c, p.d, p.e⟩
def reT (r : Five) : Th := ⟨2, r.a, r.c, r.d, r.e⟩
/-- value v is thing t -/
def ThAt (w : World) (v : Value) (t : Th) : Prop :=
  (∃ b x, v = .iface 153 (.pointer (some ⟨b, 0, none⟩)) ∧ At5 w b 0 x ∧ t = mkT x) ∨ (∃ x, v = .iface 144 (v5 x) ∧ t = prT x) ∨
  (∃ b x, v = .iface 156 (.pointer (some ⟨b, 0, none⟩)) ∧ At5 w b 0 x ∧ t = reT x)
theorem ThAt.ext {w w' : World} {v : Value} {t : Th} (h : ThAt w v t) (x : Ext w w') : ThAt w' v t := by
  rcases h with ⟨b, y, h1, h2, h3⟩ | h | ⟨b, y, h1, h2, h3⟩
  · exact .inl ⟨b, y, h1, h2.ext x, h3⟩
  · exact .inr (.inl h)
  · exact .inr (.inr ⟨b, y, h1, h2.ext x, h3⟩)
abbrev showsV (t : Th) : Value := .tuple #[.int .i64 t.y, .agg #[.int .i64 t.lo, .int .i64 t.hi]]
def of_making (x : Five) : Th := ⟨0, 0, x.b, x.c, x.d⟩
def of_repair (x : Five) : Th := ⟨2, x.a, x.c, x.d, x.e⟩
theorem pshows (x : Five) (w : World) : Calls Try.prog 167 #[v5 x] w fun e w' => e = .returned (showsV (prT x)) ∧ Ext w w' := by
  go_enter Try.func167, Try.ntmps167
  go_wp2
  go_region
  all_goals
    go_wp2
    refine bodyPost_ret (v := .tuple #[.int .i64 x.c, .agg #[.int .i64 x.d, .int .i64 x.e]]) (by simp [results, Try.results167, go_sem]) rfl ⟨rfl, ?_⟩
    repeat (first | exact Ext.refl _ | exact Ext.drew (Ext.alloc (Ext.alloc (Ext.refl _) _) _) | exact (Ext.alloc (Ext.alloc (Ext.refl _) _) _) | refine Ext.setCell ?_ (by simp) _)
set_option maxHeartbeats 1000000 in
theorem makingshows (b : Nat) (x : Five) (w : World) (h : At5 w b 0 x) : Calls Try.prog 169 #[.pointer (some ⟨b, 0, none⟩)] w fun e w' => e = .returned (showsV (of_making x)) ∧ Ext w w' := by
  obtain ⟨c0, c1, c2, c3, c4⟩ := h
  have hb := lt_of_cell c0
  have hne : ¬ b = w.heap.size := by simp at hb; omega
  simp at c1 c2 c3 c4
  go_enter Try.func169, Try.ntmps169
  go_wp2
  go_region
  all_goals
    go_wp2
    refine bodyPost_ret (v := showsV (of_making x)) (by simp [results, Try.results169, of_making, go_sem]) rfl ⟨rfl, ?_⟩
    repeat (first | exact Ext.refl _ | exact Ext.drew (Ext.alloc (Ext.refl _) _) | exact (Ext.alloc (Ext.refl _) _) | refine Ext.setCell ?_ (by simp) _)
set_option maxHeartbeats 1000000 in
theorem repairshows (b : Nat) (x : Five) (w : World) (h : At5 w b 0 x) : Calls Try.prog 171 #[.pointer (some ⟨b, 0, none⟩)] w fun e w' => e = .returned (showsV (of_repair x)) ∧ Ext w w' := by
  obtain ⟨c0, c1, c2, c3, c4⟩ := h
  have hb := lt_of_cell c0
  have hne : ¬ b = w.heap.size := by simp at hb; omega
  simp at c1 c2 c3 c4
  go_enter Try.func171, Try.ntmps171
  go_wp2
  go_region
  all_goals
    go_wp2
    refine bodyPost_ret (v := showsV (of_repair x)) (by simp [results, Try.results171, of_repair, go_sem]) rfl ⟨rfl, ?_⟩
    repeat (first | exact Ext.refl _ | exact Ext.drew (Ext.alloc (Ext.refl _) _) | exact (Ext.alloc (Ext.refl _) _) | refine Ext.setCell ?_ (by simp) _)
theorem pnumber (x : Five) (w : World) : Calls Try.prog 166 #[v5 x] w fun e w' => e = .returned (.int .i64 (prT x).i) ∧ Ext w w' := by
  go_enter Try.func166, Try.ntmps166
  go_wp2
  go_ret
  exact ⟨rfl, (Ext.refl _).alloc _⟩
theorem makingnumber (b : Nat) (x : Five) (w : World) : Calls Try.prog 168 #[.pointer (some ⟨b, 0, none⟩)] w fun e w' => e = .returned (.int .i64 (of_making x).i) ∧ Ext w w' := by
  go_enter Try.func168, Try.ntmps168
  go_wp2
  go_ret
  exact ⟨rfl, Ext.refl _⟩
theorem repairnumber (b : Nat) (x : Five) (w : World) (h : At5 w b 0 x) : Calls Try.prog 170 #[.pointer (some ⟨b, 0, none⟩)] w fun e w' => e = .returned (.int .i64 (of_repair x).i) ∧ Ext w w' := by
  obtain ⟨c0, c1, c2, c3, c4⟩ := h
  go_enter Try.func170, Try.ntmps170
  go_wp2
  go_ret
  exact ⟨rfl, Ext.refl _⟩
/-! a method called on a thing -/
def MethAt (nm : String) (T : Nat) (v : Value) (g : Nat) : Prop := ∀ n (w : World), (method (n + 1) T v nm).run Try.prog w = .ok (g, v) w
theorem wp_meth {o : Oper} {a : Act} {w : World} {K : Act → World → Prop} {Q : Exit → Act → World → Prop} (m : Operand) (nm : String)
    (ho : o.op = .call { callee := .invoke m nm, args := #[], argTypes := #[] }) (T : Nat) (v : Value) (hm : a.eval m = .iface T v) (g : Nat) (h1 : MethAt nm T v g) (hg : Enters g) (r : Value)
    (hc : Calls Try.prog g #[v] w fun e w' => e = .returned r ∧ Ext w w')
    (hK : ∀ w', Ext w w' → K (a.put o.dst r) w') : o.wp Try.prog a w K Q := by
  have hg' := hg
  unfold Enters at hg'
  unfold MethAt at h1
  unfold Oper.wp
  simp only [execOp, ho, resolve, invoke, Sem.run_bind, Sem.run_pure, Result.andThen_ok, List.map_toArray, List.map_nil, hm]
  go_simp
  refine hc.mono ?_
  rintro e w' ⟨rfl, hX⟩
  exact hK w' hX
def NameOk (nm : String) (g0 g1 g2 : Nat) : Prop := (∀ b, MethAt nm 153 (.pointer (some ⟨b, 0, none⟩)) g0) ∧ (∀ x, MethAt nm 144 (v5 x) g1) ∧ ∀ b, MethAt nm 156 (.pointer (some ⟨b, 0, none⟩)) g2
theorem enters_sh : Enters 169 ∧ Enters 167 ∧ Enters 171 := ⟨fun _ _ => by kernel_rfl, fun _ _ => by kernel_rfl, fun _ _ => by kernel_rfl⟩
theorem enters_nu : Enters 168 ∧ Enters 166 ∧ Enters 170 := ⟨fun _ _ => by kernel_rfl, fun _ _ => by kernel_rfl, fun _ _ => by kernel_rfl⟩
theorem wp_shows {o : Oper} {a : Act} {w : World} {K : Act → World → Prop} {Q : Exit → Act → World → Prop} (m : Operand) (nm : String)
    (ho : o.op = .call { callee := .invoke m nm, args := #[], argTypes := #[] }) (v : Value) (t : Th) (hm : a.eval m = v) (hv : ThAt w v t) (hn : NameOk nm 169 167 171)
    (hK : ∀ w', Ext w w' → K (a.put o.dst (showsV t)) w') : o.wp Try.prog a w K Q := by
  rcases hv with ⟨b, x, rfl, h2, rfl⟩ | ⟨x, rfl, rfl⟩ | ⟨b, x, rfl, h2, rfl⟩
  · exact wp_meth m nm ho _ _ hm _ (hn.1 b) enters_sh.1 _ (makingshows b x w h2) hK
  · exact wp_meth m nm ho _ _ hm _ (hn.2.1 x) enters_sh.2.1 _ (pshows x w) hK
  · exact wp_meth m nm ho _ _ hm _ (hn.2.2 b) enters_sh.2.2 _ (repairshows b x w h2) hK
theorem wp_number {o : Oper} {a : Act} {w : World} {K : Act → World → Prop} {Q : Exit → Act → World → Prop} (m : Operand) (nm : String)
    (ho : o.op = .call { callee := .invoke m nm, args := #[], argTypes := #[] }) (v : Value) (t : Th) (hm : a.eval m = v) (hv : ThAt w v t) (hn : NameOk nm 168 166 170)
    (hK : ∀ w', Ext w w' → K (a.put o.dst (.int .i64 t.i)) w') : o.wp Try.prog a w K Q := by
  rcases hv with ⟨b, x, rfl, h2, rfl⟩ | ⟨x, rfl, rfl⟩ | ⟨b, x, rfl, h2, rfl⟩
  · exact wp_meth m nm ho _ _ hm _ (hn.1 b) enters_nu.1 _ (makingnumber b x w) hK
  · exact wp_meth m nm ho _ _ hm _ (hn.2.1 x) enters_nu.2.1 _ (pnumber x w) hK
  · exact wp_meth m nm ho _ _ hm _ (hn.2.2 b) enters_nu.2.2 _ (repairnumber b x w h2) hK
theorem inv_shows {ops : Array Oper} {rest : List Oper} {o : Oper} {a : Act} {w : World} {Q : Exit → Act → World → Prop} (hgd : o.guard = none) (m : Operand) (nm : String)
    (ho : o.op = .call { callee := .invoke m nm, args := #[], argTypes := #[] }) (v : Value) (t : Th) (hm : a.eval m = v) (hv : ThAt w v t) (hn : NameOk nm 169 167 171)
    (hK : ∀ w', Ext w w' → wpList Try.prog ops Q rest (a.put o.dst (showsV t)) w') : wpList Try.prog ops Q (o :: rest) a w :=
  wpList_plain hgd fun _ hK' => wp_shows m nm ho v t hm hv hn fun w' hX => hK' _ _ (hK w' hX)
theorem inv_number {ops : Array Oper} {rest : List Oper} {o : Oper} {a : Act} {w : World} {Q : Exit → Act → World → Prop} (hgd : o.guard = none) (m : Operand) (nm : String)
    (ho : o.op = .call { callee := .invoke m nm, args := #[], argTypes := #[] }) (v : Value) (t : Th) (hm : a.eval m = v) (hv : ThAt w v t) (hn : NameOk nm 168 166 170)
    (hK : ∀ w', Ext w w' → wpList Try.prog ops Q rest (a.put o.dst (.int .i64 t.i)) w') : wpList Try.prog ops Q (o :: rest) a w :=
  wpList_plain hgd fun _ hK' => wp_number m nm ho v t hm hv hn fun w' hX => hK' _ _ (hK w' hX)
set_option maxRecDepth 100000 in
theorem year_any (w : World) (v : Value) (t : Th) (h : ThAt w v t) : Calls Try.prog 101 #[v] w fun e w' => e = .returned (.int .i64 t.y) ∧ Ext w w' := by
  go_enter Try.func101, Try.ntmps101
  go_wp2_with (refine inv_shows rfl (.tmp 6) _ rfl _ t rfl h ⟨fun _ _ _ => by kernel_rfl, fun _ _ _ => by kernel_rfl, fun _ _ _ => by kernel_rfl⟩ ?_; intro w1 hX1)
  go_ret
  exact ⟨rfl, hX1.alloc _⟩
def begB (t : Th) : Bool := t.k != 1
/-! type tests of things -/
theorem ta11 (v : Value) (w : World) : (Instr.typeAssert (.iface 153 v) 114 153 true).run Try.prog w = .ok (.tuple #[v, .bool true]) w := by kernel_rfl
theorem ta12 (v : Value) (w : World) : (Instr.typeAssert (.iface 153 v) 114 156 true).run Try.prog w = .ok (.tuple #[.pointer none, .bool false]) w := by kernel_rfl
theorem ta21 (v : Value) (w : World) : (Instr.typeAssert (.iface 144 v) 114 153 true).run Try.prog w = .ok (.tuple #[.pointer none, .bool false]) w := by kernel_rfl
theorem ta22 (v : Value) (w : World) : (Instr.typeAssert (.iface 144 v) 114 156 true).run Try.prog w = .ok (.tuple #[.pointer none, .bool false]) w := by kernel_rfl
theorem ta31 (v : Value) (w : World) : (Instr.typeAssert (.iface 156 v) 114 153 true).run Try.prog w = .ok (.tuple #[.pointer none, .bool false]) w := by kernel_rfl
theorem ta32 (v : Value) (w : World) : (Instr.typeAssert (.iface 156 v) 114 156 true).run Try.prog w = .ok (.tuple #[v, .bool true]) w := by kernel_rfl
set_option maxRecDepth 100000 in
theorem begins_any (w : World) (v : Value) (t : Th) (h : ThAt w v t) : Calls Try.prog 98 #[v] w fun e w' => e = .returned (.bool (begB t)) ∧ w = w' := by
  have a1 := ta11
  have a2 := ta12
  have a3 := ta21
  have a4 := ta22
  have a5 := ta31
  have a6 := ta32
  rcases h with ⟨b, x, rfl, h2, rfl⟩ | ⟨x, rfl, rfl⟩ | ⟨b, x, rfl, h2, rfl⟩
  all_goals
    go_enter Try.func98, Try.ntmps98
    go_wp2
    go_ret
    exact ⟨rfl, rfl⟩
end Go.Proofs.Ytaggjclaehigjaa
