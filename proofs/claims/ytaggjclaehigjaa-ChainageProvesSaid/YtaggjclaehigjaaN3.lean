/- Contract of the sort of pairs. -/
import Derived.Test.YtaggjclaehigjaaN1
import Derived.Test.YtaggjclaehigjaaN2
import Derived.Test.YtaggjclaehigjaaU1
import Derived.Shelf.SlSortCmp.NoneTotal
namespace Go.Proofs.Ytaggjclaehigjaa
open Go.RowKit Go.Sort Go.Shelf
theorem cmpZ_lt (a b : Int) : cmpZ a b < 0 ↔ a < b := by unfold cmpZ; split <;> (try split) <;> omega
theorem cmpZ_eq (a b : Int) : cmpZ a b = 0 ↔ a = b := by unfold cmpZ; split <;> (try split) <;> omega
theorem cmpP_lt (p q : Int × Int) : cmpP p q < 0 ↔ p.1 < q.1 ∨ (p.1 = q.1 ∧ p.2 < q.2) := by
  unfold cmpP
  split
  · rename_i h
    rw [cmpZ_eq] at h
    rw [cmpZ_lt]
    omega
  · rename_i h
    rw [cmpZ_eq] at h
    rw [cmpZ_lt]
    omega
theorem cmpP_swo : SWO (ltOf cmpP) where
  irrefl x := decide_eq_false (fun h => by rw [cmpP_lt] at h; omega)
  trans x y z a b := decide_eq_true (by
    have a := of_decide_eq_true a
    have b := of_decide_eq_true b
    rw [cmpP_lt] at *
    omega)
  ntrans x y z a b := by
    have a := of_decide_eq_false a
    have b := of_decide_eq_false b
    refine decide_eq_false (fun c => ?_)
    rw [cmpP_lt] at a b c
    omega
theorem kx_put (w : World) (blk off m : Nat) (d : Array (Int × Int)) (os : Array Obj) : KX blk w (sortWorldK encI 2 w blk off m d os) := by
  refine ⟨?_, fun b hb hne => ?_⟩
  · unfold sortWorldK
    rw [size_grow]
    show w.heap.size ≤ (putRow id (Sort.ahead w m) blk off (flatK encI 2 d)).heap.size + _
    rw [size_putRow]
    exact Nat.le_add_right _ _
  · unfold sortWorldK grow putRowK putRow mapBlock
    simp only [Array.getElem?_append]
    rw [if_pos (by simpa [Sort.ahead] using hb)]
    simp only [Array.getElem?_modify, Sort.ahead]
    rw [if_neg (fun e => hne e.symm)]
/-- the pairs, sorted -/
def sortP (l : List (Int × Int)) : List (Int × Int) := l.mergeSort fun x y => !(ltOf cmpP) y x
theorem own_holds {w : World} {g : Nat} {l : List (Int × Int)} {cs : Array Value} (hb : w.heap[g]? = some (.cells cs 131 (0, 0)))
    (hc : ∀ i, (h : i < l.length) → ∀ j u, (encI l[i])[j]? = some u → w.cell? ⟨g, i * 2 + j, none⟩ = some u) : HoldsK encI 2 w g 0 l.toArray := by
  intro j hj
  rw [size_flatK] at hj
  have hj2 : j / 2 < l.length := by simp at hj; omega
  rw [get_flatK _ _ _ _ (by simpa using hj)]
  have e : (l.toArray[j / 2]!) = l[j / 2] := by
    rw [getElem!_pos l.toArray (j / 2) (by simpa using hj2)]
    simp
  rw [e]
  refine ⟨?_, frozen_cells ⟨_, hb⟩ _⟩
  have h := hc (j / 2) hj2 (j % 2)
  rw [show j / 2 * 2 + j % 2 = 0 + j from by omega] at h
  refine h _ ?_
  have hc : j % 2 = 0 ∨ j % 2 = 1 := by omega
  rcases hc with hc | hc <;> rw [hc] <;> rfl
theorem own_sorted {base : Nat} {w : World} {g cap n : Nat} {d l : List (Int × Int)} (h : OwnP base w (.slice (some ⟨g, 0, none⟩) l.length cap) l) (hl : d.length = l.length) (os : Array Obj) :
    OwnP base (sortWorldK encI 2 w g 0 n d.toArray os) (.slice (some ⟨g, 0, none⟩) l.length cap) d := by
  obtain ⟨h1, h2⟩ := h
  refine ⟨by rw [flat_len encI_len], .inr ?_⟩
  rcases h2 with ⟨h2, _⟩ | ⟨g', cap', cur, hv, hb, hg, hle, hm, hsz, htk⟩
  · cases h2
  · injection hv with hv _ hv2
    injection hv with hv
    injection hv with hv
    subst hv hv2
    have hlt : g < w.heap.size := (Array.getElem?_eq_some_iff.1 hg).1
    refine ⟨g, cap, putCells id 0 (flatK encI 2 d.toArray) cur, by rw [hl], hb, ?_, by rw [hl]; exact hle, hm, by simp [putCells, hsz], ?_⟩
    · unfold sortWorldK grow putRowK putRow mapBlock
      simp only [Array.getElem?_append]
      rw [if_pos (by simpa [Sort.ahead] using hlt)]
      simp only [Array.getElem?_modify, Sort.ahead]
      rw [if_pos trivial, hg]
      rfl
    · refine List.ext_getElem? fun j => ?_
      by_cases hj : j < d.length * 2
      · rw [List.getElem?_take_of_lt (by omega)]
        have hcs : j < cur.size := by
          have : l.length * 2 ≤ cap * 2 := by omega
          omega
        have hd : j / 2 < d.length := by omega
        have hu : ∃ u, (encI d[j / 2])[j % 2]? = some u := by
          have hc : j % 2 = 0 ∨ j % 2 = 1 := by omega
          rcases hc with hc | hc <;> rw [hc] <;> exact ⟨_, rfl⟩
        obtain ⟨u, hu⟩ := hu
        have := flat_at encI_len d (j / 2) hd (j % 2) u hu
        rw [show j / 2 * 2 + j % 2 = j from by omega] at this
        rw [this, Array.getElem?_toList]
        simp only [putCells, Array.getElem?_mapIdx, Array.getElem?_eq_getElem hcs, Option.map_some]
        rw [if_pos (by simp; omega), Nat.sub_zero, get_flatK _ _ _ _ (by simpa using hj)]
        rw [getElem!_pos d.toArray (j / 2) (by simpa using hd)]
        simp only [List.getElem_toArray, id]
        rw [List.getElem!_of_getElem? hu]
      · rw [List.getElem?_eq_none (by simp; omega), List.getElem?_eq_none (by rw [flat_len encI_len]; omega)]
set_option maxHeartbeats 1000000 in
theorem sortP_any (base : Nat) (w : World) (v : Value) (l : List (Int × Int)) (h : OwnP base w v l) (hne : l ≠ []) (hsz : l.length < 4611686018427387904) :
    Calls Try.prog 126 #[v, .func (.func 107) #[] #[]] w fun e w' => e = .returned (.tuple #[]) ∧ OwnP base w' v (sortP l) ∧ ∀ W : World, W.heap.size ≤ base → Ext W w → Ext W w' := by
  have eg : ∀ args w, (callFunc 107 args).run Try.prog w = .ok (.enter 107 args) w := enters_of Try.func107 (by kernel_rfl) rfl
  obtain ⟨g, cap, rfl, hb, hle, hm, ⟨cs, hg⟩, hc⟩ := h.form hne encI_len
  have hlt : g < w.heap.size := (Array.getElem?_eq_some_iff.1 hg).1
  have hcon := AnyQ.slices_SortFunc_total sortPairs 2 Try.isAgg131 Try.sizeOf131 encI encI_len encI_one cmpP cmpP_swo 107 #[] g 0 cap l.toArray w eg (fun _ _ _ _ x y => cmpP_any x y _) (own_holds hg hc) hlt (by simpa using hsz) (fun x y a b => by
    have a := of_decide_eq_false a
    have b := of_decide_eq_false b
    rw [cmpP_lt] at a b
    exact Prod.ext (by omega) (by omega))
  refine hcon.mono ?_
  rintro e w' ⟨rfl, n, os, rfl⟩
  refine ⟨rfl, own_sorted h (by simp) os, fun W hW hE => ⟨hE.os, hE.tape, hE.output, Nat.le_trans hE.le (kx_put w g 0 n _ os).1, fun b hb' => ?_⟩⟩
  exact ((kx_put w g 0 n _ os).2 b (by have := hE.le; omega) (by omega)).trans (Below.block hE b hb')
end Go.Proofs.Ytaggjclaehigjaa
