/- A row of pairs: append inside a fence; contract of AppendSeq over the pairs of a spell. -/
import Derived.Test.YtaggjclaehigjaaK1
import Derived.Test.YtaggjclaehigjaaV0
namespace Go.Proofs.Ytaggjclaehigjaa
open Go.RowKit Go.Shelf
attribute [local go_sem] Oper.semAt_some
def encI (p : Int × Int) : List Value := [.int .i64 p.1, .int .i64 p.2]
theorem encI_len (p : Int × Int) : (encI p).length = 2 := rfl
theorem encI_one (p : Int × Int) : ∀ u ∈ encI p, u.oneCell' = true := by intro u hu; simp only [encI, List.mem_cons, List.not_mem_nil, or_false] at hu; rcases hu with rfl | rfl <;> rfl
theorem infoP : (Try.prog.info? 131).map (fun i => (i.zero, i.size, i.bytes)) = some (some (.agg #[.int .i64 0, .int .i64 0]), 2, 16) := by kernel_rfl
/-- a row of pairs of the call's own -/
abbrev OwnP (base : Nat) (w : World) (v : Value) (l : List (Int × Int)) : Prop := Own 131 2 encI base w v l
theorem app_many_in {α : Type} {F : Fence} {n : Nat} {ops : Array Oper} {rest : List Oper} {o : Oper} {a : Act} {w : World} {Q : Exit → Act → World → Prop} (st T k by_ : Nat) (z : Value) (enc : α → List Value) (hk : ∀ x, (enc x).length = k) (ho1 : ∀ x, ∀ u ∈ enc x, u.oneCell' = true)
    (hst : Try.prog.underlying st = some (.slice T)) (hinf : (Try.prog.info? T).map (fun i => (i.zero, i.size, i.bytes)) = some (some z, k, by_)) (hz : z.cells.size = k) (hk0 : 0 < k) (hby : by_ ≤ 80)
    (hgd : o.guard = none) (s x : Operand)
    (ho : o.op = .call { callee := .builtin .append, args := #[s, x], argTypes := #[st, st] }) (base : Nat) (v : Value) (l : List α) (hs : a.eval s = v) (hown : Own T k enc base w v l)
    (xv : Value) (y : List α) (hx : a.eval x = xv) (hy : Sl k enc w xv y)
    (hlen : l.length + y.length ≤ 1000000000000) (hbase : base ≤ w.heap.size)
    (h : ∀ v' w', Own T k enc base w' v' (l ++ y) → w.grownBy w' v.ownBlock → (∀ W : World, W.heap.size ≤ base → Ext W w → Ext W w') → (v'.ownBlock = v.ownBlock ∨ v'.ownBlock = some w.heap.size) → wpListIn F n Try.prog ops Q rest (a.put o.dst v') w') : wpListIn F n Try.prog ops Q (o :: rest) a w := by
  obtain ⟨v', w', hr, h2, h3, h4⟩ := run_app st T k by_ o.type z enc hk ho1 hst hinf hz hk0 hby base v l hown xv y hy hlen hbase
  refine wpListIn_plain hgd fun K hK => ?_
  unfold Oper.wpIn
  refine ⟨by simp [Oper.about, ho, resolve, Target.leads, Sem.run_pure], ?_⟩
  rw [Oper.semAt_plain F _ _ (by rw [ho]; intro c hc'; cases hc')]
  simp only [execOp, ho, resolve, invoke, builtin, Sem.run_bind, Sem.run_pure, Result.andThen_ok, List.map_toArray, List.map_cons, List.map_nil, hs, hx, hr]
  exact hK _ _ (h v' w' h2 h3 (grown_ext hown h3) h4)
/-- an own row abides where no block of cells is turned -/
theorem Own.own {α : Type} {T k n base : Nat} {enc : α → List Value} {A A' : World} {v : Value} {l : List α} {row : Option Nat} (h : Own T k enc base A v l) (hg : A.grownBy A' row) (hr : ∀ r, row = some r → n ≤ r ∧ ∃ o : Obj, A.heap[r]? = some o ∧ o.isCells = false) : Own T k enc base A' v l := by
  obtain ⟨h1, h2⟩ := h
  refine ⟨h1, ?_⟩
  rcases h2 with h2 | ⟨g, cap, cur, hv, hb, hh, r⟩
  · exact .inl h2
  · refine .inr ⟨g, cap, cur, hv, hb, (hg.block g (Array.getElem?_eq_some_iff.1 hh).1 (fun e => ?_)).trans hh, r⟩
    obtain ⟨_, o, ho, hc⟩ := hr g e.symm
    rw [hh] at ho
    cases ho
    cases hc
/-- an own row is turned: what is no cells stays -/
theorem Own.keepsFrom {α : Type} {T k base B : Nat} {enc : α → List Value} {A A' : World} {v : Value} {l : List α} (h : Own T k enc base A v l) (hg : A.grownBy A' v.ownBlock) : KeepsFrom B A A' := by
  refine ⟨hg.size, fun j o _ ho hc => (hg.block j (Array.getElem?_eq_some_iff.1 ho).1 (fun e => ?_)).trans ho⟩
  obtain ⟨_, h2⟩ := h
  rcases h2 with ⟨rfl, _⟩ | ⟨g, cap, cur, rfl, _, hh, _⟩
  · cases e
  · injection e with e
    simp only at e
    subst e
    rw [hh] at ho
    cases ho
    cases hc
theorem Own.setCell {α : Type} {T k base B T' : Nat} {enc : α → List Value} {A : World} {v u x : Value} {l : List α} (h : Own T k enc base A v l) (hB : Boxed A B T' x) (hT : T ≠ T') : Own T k enc base (A.setCell ⟨B, 0, none⟩ u) v l :=
  h.kx ((KX.refl _ _).set _ _) hB hT
set_option maxRecDepth 100000 in
set_option maxHeartbeats 4000000 in
theorem seq_in (s : SpE) (Bs : Nat) (w0 w : World) (v : Value) (l : List (Int × Int)) (hs : SpOk w0 s) (hW : Ext w0 w) (hB : BoxS w Bs s) (hown : OwnP w0.heap.size w v l) (hlen : l.length + (pairsOf s.w s.fs).length ≤ 1000000000000) :
    CallsIn Fence.wide 6 Try.prog 105 #[v, .func (.func 123) #[] #[.pointer (some ⟨Bs, 0, none⟩)]] w fun e w' => (∃ v', e = .returned v' ∧ OwnP w0.heap.size w' v' (l ++ pairsOf s.w s.fs)) ∧ Ext w0 w' := by
  obtain ⟨a, cap, hv, -⟩ := hown.sl encI_len
  generalize hnl : l.length = nl at hv hlen
  have HNL := Lib.hid hnl
  clear hnl
  subst hv
  have HS := Lib.hid hs
  have HO := Lib.hid hown
  have hle := hW.le
  have hBl : Bs < w.heap.size := (Array.getElem?_eq_some_iff.1 hB).1
  clear hs hown
  refine callsIn_of_wp_marks Try.func105 rfl trivial ?_ rfl
  simp only [Try.ntmps105, List.size_toArray, List.length_cons, List.length_nil, Nat.reduceAdd, Nat.reduceSub, Array.replicate_succ, Array.replicate_zero, List.push_toArray, List.append_toArray, List.nil_append, List.cons_append]
  gi_wp2
  have bR := Boxed.new w 128 (.slice a nl cap)
  have hB1 : BoxS (w.alloc (.cells #[.slice a nl cap] 128)) Bs s := ((Ext.refl w).alloc _).block hB
  have hE1 : Ext w0 (w.alloc (.cells #[.slice a nl cap] 128)) := hW.alloc _
  have HO1 := Lib.hid (HO.out.ext ((Ext.refl w).alloc (.cells #[.slice a nl cap] 128)))
  have hsz : (w.alloc (.cells #[.slice a nl cap] 128)).heap.size = w.heap.size + 1 := by simp
  obtain ⟨W0, hW0⟩ : ∃ W0, w.alloc (.cells #[.slice a nl cap] 128) = W0 := ⟨_, rfl⟩
  rw [hW0] at bR hB1 hE1 HO1 hsz ⊢
  clear hW0
  refine wpIn_rangeFunc_ownH rfl (by omega) (gf := 123) (lb := #[.pointer (some ⟨Bs, 0, none⟩)]) rfl trivial (enters_of Try.func123 (by kernel_rfl) rfl)
    (pairs_stops 5 (by omega) Bs s w0 W0 HS.out hE1 hB1)
    (fun h k => h.trans k) (fun W li o o' hli ho _ _ => KpE.putObj W li o o' (by omega) (by omega) ho) (Below.refl _ _) (fun _ => rfl)
    (fun pre W => ((∃ v', OwnP w0.heap.size W v' (l ++ pre) ∧ Boxed W w.heap.size 128 v') ∧ BoxS W Bs s) ∧ Ext w0 W)
    (fun _ _ _ => False)
    (fun pre A B row hs hg hr => ⟨⟨by obtain ⟨v', h1, h2⟩ := hs.1.1; exact ⟨v', h1.own hg hr, Boxed.own h2 hg hr⟩, BoxN.own hs.1.2 hg hr⟩, below_own (by omega) hs.2 hg hr⟩)
    (fun c pre A B row hs hg hr => hs)
    ⟨⟨⟨.slice a nl cap, by rw [List.append_nil]; exact HO1.out, bR⟩, hB1⟩, hE1⟩
    (fun x a' W => ∃ b u7, a' = { tmps := #[.slice a nl cap, .func (.func 123) #[] #[.pointer (some ⟨Bs, 0, none⟩)], .pointer (some ⟨w.heap.size, 0, none⟩), undef, .slice none 0 0, .pointer (some ⟨b, 0, none⟩), .func (.func 123) #[] #[.pointer (some ⟨Bs, 0, none⟩)], u7, undef, undef, undef, undef, undef], defers := [] } ∧ BoxN W b #[.int .i64 x.1, .int .i64 x.2] 131)
    (fun x a' _ X Y row hs hg hr => by obtain ⟨b, u7, h1, h2⟩ := hs; exact ⟨b, u7, h1, BoxN.own h2 hg hr⟩)
    ?assign ?body ?done ?stop
  case assign =>
    rintro li pre x W K ⟨⟨⟨v', h1, h2⟩, h3⟩, h4⟩ hK
    dsimp only [encP]
    gi_wp2
    exact hK _ _ (keepsFrom_ext ((Ext.refl W).alloc _)) (KpE.ofExt ((Ext.refl W).alloc _) h4.le) ⟨⟨⟨v', h1.ext ((Ext.refl W).alloc _), Boxed.ext h2 ((Ext.refl W).alloc _)⟩, ((Ext.refl W).alloc _).block h3⟩, h4.alloc _⟩ ⟨W.heap.size, _, rfl, BoxN.new W _ _⟩
  case body =>
    rintro li pre x a' W hli ⟨r, hr⟩ ⟨⟨⟨v', h1, h2⟩, h3⟩, h4⟩ ⟨b, u7, rfl, h5⟩ hlt
    obtain ⟨a2, cap2, hv2, -⟩ := h1.sl encI_len
    have hlp : (l ++ pre).length + 1 ≤ 1000000000000 := by have := HNL.out; simp; omega
    have HLP := Lib.hid hlp
    generalize hm : (l ++ pre).length = m at hv2
    subst hv2
    have H1 := Lib.hid h1
    have q0 := h5.cell 0
    have q1 := h5.cell 1
    simp only [List.getElem?_toArray, List.getElem?_cons_succ, List.getElem?_cons_zero] at q0 q1
    have cR := h2.cell
    have hle2 := h4.le
    have H2 := Lib.hid h2
    have bR2 := h2.lt
    clear h1 hm hlp h2
    gi_wp2_with (refine app_many_in 128 131 2 16 (.agg #[.int .i64 0, .int .i64 0]) encI encI_len encI_one Try.underlying128 infoP rfl (by decide) (by decide) rfl (.tmp 8) (.tmp 10) rfl w0.heap.size _ _ rfl (H1.out.ext ((Ext.refl _).alloc _)) _ [x] rfl (Sl.new1 rfl rfl) (by exact HLP.out) (by simp; omega) ?_; intro v2 w2 hO2 hg2 hE2 hb2; have bX := Boxed.ext H2.out ((Ext.refl W).alloc (.cells #[.int .i64 x.1, .int .i64 x.2] 131)); have bk := block_keep (H1.out.ext ((Ext.refl _).alloc _)) hg2 bX (by decide); have c2 : w2.cell? ⟨w.heap.size, 0, none⟩ = some (.slice a2 m cap2) := cell_at bk 0; have f2 := frozen_cells ⟨_, bk⟩ 0; have z2 := (Array.getElem?_eq_some_iff.1 bk).1; obtain ⟨a3, cap3, hv3, -⟩ := hO2.sl encI_len; generalize (l ++ pre ++ [x]).length = m3 at hv3; subst hv3)
    have hg : (W.alloc (.cells #[.int .i64 x.1, .int .i64 x.2] 131)).grownBy w2 (Value.slice a2 m cap2).ownBlock := hg2
    have hA := (Ext.refl W).alloc (.cells #[.int .i64 x.1, .int .i64 x.2] 131)
    have hB2 := block_keep (H1.out.ext hA) hg (hA.block h3) (by decide)
    have hlA : w0.heap.size ≤ (W.alloc (.cells #[.int .i64 x.1, .int .i64 x.2] 131)).heap.size := by simp; omega
    have hBe : Below w0.heap.size W w2 := Below.grown (KpE.ofExt (Bs := Bs) hA hle2).1 hg (by simp; omega) (fun k hk => (World.ownsRow.lt (H1.out.ext hA) k hk).1)
    have hB3 : BoxS (w2.setCell ⟨w.heap.size, 0, none⟩ (.slice a3 m3 cap3)) Bs s := ((grownBy_setCell' w2 w.heap.size _).block Bs (Array.getElem?_eq_some_iff.1 hB2).1 (by intro e; injection e with e; omega)).trans hB2
    refine ⟨((keepsFrom_ext hA).trans ((H1.out.ext hA).keepsFrom hg)).trans ((KeepsOthers.setCell _ _ _).from _), ⟨hBe.setCell (p := ⟨w.heap.size, 0, none⟩) hle _, fun o ho => ?_⟩, ⟨⟨.slice a3 m3 cap3, ?_, (show Boxed w2 w.heap.size 128 (.slice a2 m cap2) from bk).set _⟩, hB3⟩, Ext.setCell (hE2 w0 (Nat.le_refl _) (h4.trans hA)) hle _⟩
    · have e : o = _ := Option.some.inj (ho.symm.trans h3)
      rw [e]
      exact hB3
    · rw [← List.append_assoc]
      exact hO2.setCell bk (by decide)
  case done =>
    rintro D zs W hD rfl ⟨⟨⟨v', h1, h2⟩, h3⟩, h4⟩ hK
    obtain ⟨a2, cap2, hv2, -⟩ := h1.sl encI_len
    generalize (l ++ pairsOf s.w s.fs).length = m at hv2
    subst hv2
    have cR := h2.cell
    have bR2 := h2.lt
    gi_wp2
    refine ⟨by simp, .inl ⟨_, _, rfl, run_takeDeferred hK, ?_⟩⟩
    refine ⟨.slice a2 m cap2, ?_, ⟨_, rfl, ?_⟩, ?_⟩
    · simp [results, Try.f105, go_sem]
    · exact h1.own (n := 0) (grownBy_putObj' _ D (.deferred none)) (fun r e => by cases e; exact ⟨Nat.zero_le _, _, hK, rfl⟩)
    · exact Below.trans h4 (belowK_b (w := w0) (Nat.le_refl _) W D _ _ (by omega) hK rfl rfl)
  case stop =>
    rintro D c pre W hD hpre h hK
    exact h.elim
/-- AppendSeq: the pairs of a spell behind a row of the call's own -/
theorem appendSeq_any (s : SpE) (Bs : Nat) (w0 w : World) (v : Value) (l : List (Int × Int)) (hs : SpOk w0 s) (hW : Ext w0 w) (hB : BoxS w Bs s) (hown : OwnP w0.heap.size w v l) (hlen : l.length + (pairsOf s.w s.fs).length ≤ 1000000000000) :
    Calls Try.prog 105 #[v, .func (.func 123) #[] #[.pointer (some ⟨Bs, 0, none⟩)]] w fun e w' => (∃ v', e = .returned v' ∧ OwnP w0.heap.size w' v' (l ++ pairsOf s.w s.fs)) ∧ Ext w0 w' :=
  callsIn_wide.1 (seq_in s Bs w0 w v l hs hW hB hown hlen)
end Go.Proofs.Ytaggjclaehigjaa
