/- The things of a chain, sorted. -/
import Derived.Test.YtaggjclaehigjaaV0
namespace Go.Proofs.Ytaggjclaehigjaa
open Go.RowKit Go.Sort
theorem cmpZ_neg {a b : Int} : cmpZ a b < 0 ↔ a < b := by unfold cmpZ; split <;> (try split) <;> omega
theorem cmpZ_zero {a b : Int} : cmpZ a b = 0 ↔ a = b := by unfold cmpZ; split <;> (try split) <;> omega
def one_ (t : Th) : Int := if begB t then 0 else 1
theorem cmpT_neg {s t : Th} : cmpT s t < 0 ↔ s.y < t.y ∨ (s.y = t.y ∧ one_ s < one_ t) := by
  unfold cmpT orL
  by_cases h : cmpZ s.y t.y = 0
  · rw [if_pos h]
    have h' := cmpZ_zero.1 h
    unfold orL
    by_cases h2 : cmpZ (if begB s then 0 else 1) (if begB t then 0 else 1) = 0
    · rw [if_pos h2]
      have := cmpZ_zero.1 h2
      unfold orL one_
      omega
    · rw [if_neg h2, cmpZ_neg]
      unfold one_
      omega
  · rw [if_neg h, cmpZ_neg]
    have := mt cmpZ_zero.2 h
    omega
theorem cmpT_swo {β : Type} (f : β → Th) : SWO (ltOf fun x y => cmpT (f x) (f y)) := by
  refine ⟨fun x => ?_, fun x y z h k => ?_, fun x y z h k => ?_⟩
  · simp only [ltOf, decide_eq_false_iff_not, cmpT_neg]; omega
  · simp only [ltOf, decide_eq_true_eq, cmpT_neg] at h k ⊢; omega
  · simp only [ltOf, decide_eq_false_iff_not, cmpT_neg] at h k ⊢; omega
/-- in order: by year, the beginning of a spell first -/
def SortedT (ts : List Th) : Prop := ts.Pairwise fun s t => ¬ cmpT t s < 0
theorem fin_at (n i : Nat) (h : i < n + 1) : (List.finRange (n + 1)).toArray[i]! = (⟨i, h⟩ : Fin (n + 1)) := by
  rw [getElem!_pos (List.finRange (n + 1)).toArray i (by simpa using h)]
  simp
theorem RW.ext_of {α : Type} [Inhabited α] {v : α → Value} {w0 W w5 : World} {blk off : Nat} {d : Array α} (h : RW v w0 blk off d W) (x : Ext w5 w0) (hb : w5.heap.size ≤ blk) : Ext w5 W :=
  ⟨h.same.1.trans x.os, h.same.2.1.trans x.tape, h.same.2.2.trans x.output, Nat.le_trans x.le h.kx.1, fun k hk => (h.kx.2 k (Nat.lt_of_lt_of_le hk x.le) (by omega)).trans (Below.block x k hk)⟩
theorem frozen_at {w : World} {g : Nat} {cs : Array Value} {T : Nat} (h : w.heap[g]? = some (.cells cs T (0, 0))) (i : Nat) : w.frozen? ⟨g, i, none⟩ = false := by
  simp [World.frozen?, h]
set_option maxHeartbeats 1000000 in
theorem sortThings_any (base : Nat) (w : World) (u : Value) (L : List Elt) (hO : Own 114 1 encE base w u L) (hL : L ≠ []) (hA : ∀ x ∈ L, EltAt w x) (hlen : L.length ≤ 1000000) :
    Calls Try.prog 96 #[u, .func (.func 97) #[] #[]] w fun e w' => e = .returned (.tuple #[]) ∧ ∃ L2, Sl 1 encE w' u L2 ∧ (∀ x ∈ L2, EltAt w' x) ∧ L2.Perm L ∧ SortedT (L2.map (·.2.2)) ∧ (∀ W, W.heap.size ≤ base → Ext W w → Ext W w') := by
  obtain ⟨g, cap, rfl, hb, hle, hm, ⟨cs, hcs⟩, hc⟩ := Own.form hO hL encE_len
  obtain ⟨n, hn⟩ : ∃ n, L.length = n + 1 := ⟨L.length - 1, by cases L with | nil => exact absurd rfl hL | cons a l => simp⟩
  have hcell : ∀ i, i < n + 1 → w.cell? ⟨g, 0 + i, none⟩ = some (.iface (L.getD i default).1 (L.getD i default).2.1) := by
    intro i hi
    have := hc i (by omega) 0 _ rfl
    simpa [List.getD, show i < L.length from by omega] using this
  have hmem : ∀ i : Fin (n + 1), L.getD i.1 default ∈ L := fun i => by
    have : i.1 < L.length := by omega
    simp [List.getD, this]
  have S : RW (fun x : Fin (n + 1) => .iface (L.getD x.1 default).1 (L.getD x.1 default).2.1) w g 0 (List.finRange (n + 1)).toArray w :=
    ⟨KX.refl _ _, fun x => ⟨_, _, rfl⟩, ⟨rfl, rfl, rfl⟩, fun i hi => by
      have hi' : i < n + 1 := by simpa using hi
      rw [fin_at n i hi']
      exact ⟨hcell i hi', frozen_at hcs _⟩⟩
  have keep : ∀ W, KX g w W → ∀ x ∈ L, EltAt W x := fun W k x hx => (hA x hx).kx k (.inl ⟨_, _, hcell 0 (by omega)⟩)
  have hC : CmpOk (fun x : Fin (n + 1) => .iface (L.getD x.1 default).1 (L.getD x.1 default).2.1) (fun x y : Fin (n + 1) => cmpT (L.getD x.1 default).2.2 (L.getD y.1 default).2.2) w g 0 (n + 1) := by
    intro W d' _ S' x y
    exact cmpT_any W _ _ _ _ W (Ext.refl _) (keep W S'.kx _ (hmem x)) (keep W S'.kx _ (hmem y))
  rw [hn]
  refine (sortStable_any (fun x : Fin (n + 1) => .iface (L.getD x.1 default).1 (L.getD x.1 default).2.1) _ (fun x : Fin (n + 1) => x.1) (cmpT_swo fun x : Fin (n + 1) => (L.getD x.1 default).2.2) g 0 cap w (n + 1) hC (by omega) (List.finRange (n + 1)).toArray w (by simp) S (fun i j hij hj => by rw [fin_at n i (by omega), fin_at n j hj]; exact hij)).mono ?_
  rintro e w2 ⟨rfl, d', S', hpm, hso⟩
  have hz : d'.size = n + 1 := by rw [hpm.1]; simp
  have hp : d'.toList.Perm (List.finRange (n + 1)) := by
    have h := hpm.2.2
    have ex : ∀ a : Array (Fin (n + 1)), a.size = n + 1 → (a.extract 0 (n + 1)).toList = a.toList := fun a ha => by
      rw [Array.toList_extract]
      simp only [← ha, List.extract_eq_take_drop, List.drop_zero, Nat.sub_zero]
      exact List.take_of_length_le (by simp)
    rw [ex _ hz, ex _ (by simp)] at h
    simpa using h
  refine ⟨rfl, d'.toList.map (fun i => L.getD i.1 default), ?_, ?_, ?_, ?_, ?_⟩
  · refine ⟨_, cap, by simp [hz], by simp [hz]; omega, hm, .inr ⟨g, 0, rfl, fun i hi j u hu => ?_⟩⟩
    have hi' : i < d'.size := by simpa using hi
    match j, hu with
    | 0, hu =>
      have := (S'.row i hi').1
      rw [getElem!_pos d' i hi'] at this
      simp only [encE, List.getElem_map, Array.getElem_toList, List.getElem?_cons_zero, Option.some.injEq] at hu
      rw [← hu]
      simpa using this
    | j + 1, hu => simp [encE] at hu
  · intro x hx
    obtain ⟨i, _, rfl⟩ := List.mem_map.1 hx
    exact keep w2 S'.kx _ (hmem i)
  · have := hp.map (fun i : Fin (n + 1) => L.getD i.1 default)
    refine this.trans (List.Perm.of_eq ?_)
    refine List.ext_getElem (by simp [hn]) (fun i h1 h2 => ?_)
    simp [List.getD, h2]
  · unfold SortedT
    rw [List.map_map, List.pairwise_map, List.pairwise_iff_getElem]
    intro i j hi hj hij
    have hi' : i < d'.size := by simpa using hi
    have hj' : j < d'.size := by simpa using hj
    have := lt2_of (hso i j (Nat.zero_le _) hij (by omega))
    rw [getElem!_pos d' i hi', getElem!_pos d' j hj'] at this
    simpa [ltOf] using this
  · intro W hW hE
    exact S'.ext_of hE (by omega)
end Go.Proofs.Ytaggjclaehigjaa
