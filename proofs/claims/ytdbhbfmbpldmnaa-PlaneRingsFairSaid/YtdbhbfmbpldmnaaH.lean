/- A region that draws its order, inside a fence: all operations but the last ones read alone. -/
import Derived.OrdersIn
import Derived.StillTail
import Derived.StillTailTactics
import Derived.TacticsIn
import Derived.Laws.Sem
namespace Go.Proofs.Ytdbhbfmbpldmnaa
open Go
/-- operations that hand back a value and call no Go function -/
def plainOp : Op → Bool
  | .move _ | .assign _ | .load _ _ | .fieldAddr _ _ _ | .indexAddr _ _ _ | .field _ _ _ | .index _ _ _ | .binOp _ _ _ _ _ | .unOp _ _ _ | .build _ _ | .convert _ _ _ | .extract _ _ => true
  | .pick _ _ _ => true
  | .call c => match c.callee with
    | .builtin .len => true
    | .builtin .min => true
    | .builtin .max => true
    | _ => false
  | _ => false
theorem val_of_bind {P : Program} (X : Sem Value) (w : World) (n : Next) (w' : World) (h : (X >>= fun v => (pure (Next.value v) : Sem Next)).run P w = .ok n w') : ∃ v, n = .value v := by
  change (Sem.bind X _).run P w = _ at h
  rw [Sem.run_bind'] at h
  generalize X.run P w = r at h
  cases r with
  | ok a w1 =>
    have h2 : Result.ok (Next.value a) w1 = Result.ok n w' := h
    cases h2
    exact ⟨_, rfl⟩
  | halt x w1 => cases h
theorem plainOp_val {P : Program} (ρ : Operand → Value) (o : Oper) (hp : plainOp o.op = true) (w : World) (n : Next) (w' : World) (h : (execOp ρ o).run P w = .ok n w') : ∃ v, n = .value v := by
  obtain ⟨dst, op, type, pos, after, guard⟩ := o
  cases op <;> simp only [plainOp] at hp <;> first | (cases hp; done) | (simp only [execOp] at h; first | exact val_of_bind _ w n w' h | (cases h; exact ⟨_, rfl⟩) | skip)
  · rename_i c a b
    change (Sem.bind (asBool (ρ c)) _).run P w = _ at h
    rw [Sem.run_bind'] at h
    generalize (asBool (ρ c)).run P w = r at h
    cases r with
    | ok a w1 =>
      have h2 : Result.ok (Next.value _) w1 = Result.ok n w' := h
      cases h2
      exact ⟨_, rfl⟩
    | halt x w1 => cases h
  · rename_i c
    obtain ⟨callee, args, argTypes⟩ := c
    cases callee with
    | builtin b => 
      cases b <;> first | (cases (show false = true from hp); done) | exact val_of_bind _ w n w' h
    | value f => cases hp
    | invoke r m => cases hp
theorem plainOp_about {P : Program} (ρ : Operand → Value) (o : Oper) (hp : plainOp o.op = true) (w : World) : o.about P w ρ = none := by
  obtain ⟨dst, op, type, pos, after, guard⟩ := o
  cases op <;> simp only [plainOp] at hp <;> first | (cases hp; done) | rfl | skip
  rename_i c
  obtain ⟨callee, args, argTypes⟩ := c
  cases callee with
  | builtin b => rfl
  | value f => cases hp
  | invoke r m => cases hp
section
variable {F : Fence} {n : Nat} {P : Program} {ops : Array Oper} {md : Region.Mode} {w : World}
theorem wpOpIn_of_stOp {i : Nat} {a : Act} {K : Act → Prop} {K' : Act → World → Prop} {Q' : Exit → Act → World → Prop} (hp : ∀ o, ops[i]? = some o → plainOp o.op = true)
    (h : ∀ a, K a → K' a w) (hh : stOp P ops w i K a) : wpOpIn F n P ops Q' i K' a w := by
  unfold stOp at hh
  unfold wpOpIn
  split
  · rename_i ho; simp only [ho] at hh; exact h _ hh
  · rename_i o ho
    simp only [ho] at hh
    have hpo := hp o ho
    have hab : ∀ f, o.about P w a.eval = some f → F.fn f := fun f hf => by rw [plainOp_about a.eval o hpo w] at hf; cases hf
    split
    · rename_i hw
      simp only [hw, if_true] at hh
      refine ⟨hab, ?_⟩
      rw [Oper.semAt_eq _ _ _ (fun c h => by rw [h] at hpo; cases hpo)]
      unfold Oper.still at hh
      cases hr : (execOp a.eval o).run P w with
      | ok nx w' =>
        rw [hr] at hh
        obtain ⟨v, rfl⟩ := plainOp_val a.eval o hpo w nx w' hr
        simp only [Oper.stillUpon] at hh
        obtain ⟨rfl, h2⟩ := hh
        exact h _ h2
      | halt x w' => rw [hr] at hh; simp only [Oper.stillUpon] at hh
    · rename_i hw; simp only [hw] at hh; exact ⟨hab, h _ hh⟩
theorem wpAnyIn_of_head {m g : Nat} {L : Array Bool → Act → Prop} {Q' : Exit → Act → World → Prop} (hp : ∀ i, i < m → ∀ o, ops[i]? = some o → plainOp o.op = true)
    (hL : ∀ listed a, L listed a → wpAnyIn F n P md ops Q' g listed a w) :
    ∀ (f : Nat) (listed : Array Bool) (a : Act), wpAnyL P md ops w m L f listed a → wpAnyIn F n P md ops Q' (f + g) listed a w
  | 0, listed, a, h => by rw [Nat.zero_add]; exact hL _ _ h
  | f + 1, listed, a, h => by
    rw [show f + 1 + g = (f + g) + 1 by omega]
    exact ⟨fun h0 => absurd h0 h.1, fun i hi => wpOpIn_of_stOp (hp i (h.2 i hi).1) (fun a' h' => wpAnyIn_of_head hp hL f _ a' h') (h.2 i hi).2⟩
theorem wpAnyIn_of_seq {Q' : Exit → Act → World → Prop} : ∀ (l : List Oper) (k : Nat) (listed : Array Bool) (a : Act) (w : World), (∀ j, l[j]? = ops[k + j]?) →
    Region.seqB md ops l.length k listed = true → wpListIn F n P ops Q' l a w → wpAnyIn F n P md ops Q' l.length listed a w
  | [], _, _, _, _, _, hB, h => ⟨by simpa [Region.seqB] using hB, h⟩
  | o :: l, k, listed, a, w, hl, hB, h => by
    have h0 : ops[k]? = some o := by simpa using (hl 0).symm
    simp only [List.length_cons, Region.seqB, Bool.and_eq_true, decide_eq_true_eq] at hB
    refine ⟨fun h1 => (by rw [hB.1] at h1; cases h1), fun i hi => ?_⟩
    rw [hB.1] at hi
    have hik : i = k := by simpa using hi
    subst hik
    have hw : wpOpIn F n P ops Q' i (wpListIn F n P ops Q' l) a w := by unfold wpOpIn; simp only [h0]; exact h
    exact wpOpIn_mono (fun a' w' h' => wpAnyIn_of_seq l (i + 1) _ a' w' (fun j => by have := hl (j + 1); simpa [Nat.add_assoc, Nat.add_comm 1 j] using this) hB.2 h') hw
theorem wpIn_region_tail {id : Nat} {Q : Exit → Act → World → Prop} {a : Act} {l : List Oper} (m : Nat) (hm : P.follows .mixedOrders = true) (hB : Region.lexTailB .any l.toArray m = true)
    (hpl : (l.take m).all (fun o => plainOp o.op) = true)
    (h : wpStill P l.toArray { w with drawn := w.drawn + 1 } (fun a' => wpListIn F n P l.toArray Q (l.drop m) a' { w with drawn := w.drawn + 1 }) (l.take m) a) : (Code.region id l.toArray true).wpIn F n P Q a w := by
  simp only [Region.lexTailB, Bool.and_eq_true, decide_eq_true_eq] at hB
  obtain ⟨⟨⟨⟨hsel, hn⟩, hs⟩, hc⟩, hlex⟩ := hB
  have hn' : m < l.length := by simpa using hn
  have htl : (l.take m).length = m := by simp; omega
  have hdl : (l.drop m).length = l.toArray.size - m := by simp
  have inv0 : HeadInv .any l.toArray m (Array.replicate l.toArray.size false) :=
    ⟨by simp, fun j oj _ hl => (by rw [getD_replicate_false] at hl; cases hl), fun t _ ht => getD_in (by simpa using ht) (getD_replicate_false _ _)⟩
  have H := wpAnyL_lex (md := .any) (g := l.toArray.size - m) hsel hs hc hn (l.take m) 0 _ a (fun j hj => by
    have hj' : j < m := by rw [htl] at hj; exact hj
    simp [hj']) (by simpa using htl) inv0 (by rw [htl]; exact hlex) h
  refine wpIn_region_any hm ?_
  have hp : ∀ i, i < m → ∀ o, l.toArray[i]? = some o → plainOp o.op = true := fun i hi o ho => by
    refine List.all_eq_true.1 hpl o (List.mem_of_getElem? (i := i) ?_)
    simpa [hi] using ho
  have := wpAnyIn_of_head (F := F) (n := n) (Q' := Q) (g := l.toArray.size - m) hp (fun listed a' hL => by
    have := wpAnyIn_of_seq (F := F) (n := n) (P := P) (md := .any) (Q' := Q) (l.drop m) m listed a' { w with drawn := w.drawn + 1 } (fun j => by simp [List.getElem?_drop]) (by rw [hdl]; exact hL.1) hL.2
    rwa [hdl] at this) _ _ _ H
  rw [htl, show m + (l.toArray.size - m) = l.toArray.size by omega] at this
  exact this
end
end Go.Proofs.Ytdbhbfmbpldmnaa
