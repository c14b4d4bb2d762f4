/- Rows of five numbers; contracts of within, inside, find. -/
import Derived.Test.YtaggjclaehigjaaB
namespace Go.Proofs.Ytaggjclaehigjaa
open Go.RowKit
def enc5 (x : Five) : List Value := [.int .i64 x.a, .int .i64 x.b, .int .i64 x.c, .int .i64 x.d, .int .i64 x.e]
theorem enc5_len (x : Five) : (enc5 x).length = 5 := rfl
theorem enc5_one (x : Five) : ∀ u ∈ enc5 x, u.oneCell' = true := by
  intro u hu
  simp only [enc5, List.mem_cons, List.not_mem_nil, or_false] at hu
  rcases hu with rfl | rfl | rfl | rfl | rfl <;> rfl
abbrev v5 (x : Five) : Value := .agg #[.int .i64 x.a, .int .i64 x.b, .int .i64 x.c, .int .i64 x.d, .int .i64 x.e]
/-- the five cells from offset o of block b on -/
def At5 (w : World) (b o : Nat) (x : Five) : Prop :=
  w.cell? ⟨b, o, none⟩ = some (.int .i64 x.a) ∧ w.cell? ⟨b, o + 1, none⟩ = some (.int .i64 x.b) ∧ w.cell? ⟨b, o + 2, none⟩ = some (.int .i64 x.c) ∧ w.cell? ⟨b, o + 3, none⟩ = some (.int .i64 x.d) ∧ w.cell? ⟨b, o + 4, none⟩ = some (.int .i64 x.e)
theorem At5.ext {w w' : World} {b o : Nat} {x : Five} (h : At5 w b o x) (k : Ext w w') : At5 w' b o x :=
  ⟨k.cell h.1, k.cell h.2.1, k.cell h.2.2.1, k.cell h.2.2.2.1, k.cell h.2.2.2.2⟩
abbrev Fives (w : World) (v : Value) (l : List Five) : Prop := Sl 5 enc5 w v l
theorem Fives.parts {w : World} {v : Value} {l : List Five} (h : Fives w v l) : ∃ a cap, v = .slice a l.length cap ∧ l.length ≤ cap ∧ cap ≤ maxLen ∧
    (l = [] ∨ ∃ b off, a = some ⟨b, off, none⟩ ∧ ∀ i, (h : i < l.length) → At5 w b (off + i * 5) l[i]) := by
  obtain ⟨a, cap, hv, hl, hm, h⟩ := h
  refine ⟨a, cap, hv, hl, hm, h.imp id ?_⟩
  rintro ⟨b, off, ha, hc⟩
  refine ⟨b, off, ha, fun i hi => ?_⟩
  have := hc i hi
  exact ⟨this 0 _ rfl, this 1 _ rfl, this 2 _ rfl, this 3 _ rfl, this 4 _ rfl⟩
theorem At5_new (w : World) (T : Nat) (x : Five) : At5 (w.alloc (.cells #[.int .i64 x.a, .int .i64 x.b, .int .i64 x.c, .int .i64 x.d, .int .i64 x.e] T)) w.heap.size 0 x := by
  refine ⟨?_, ?_, ?_, ?_, ?_⟩ <;> exact cell_new w (enc5 x) T _
theorem within_any (n lo hi : Int) (w : World) :
    Calls Try.prog 53 #[.int .i64 n, .int .i64 lo, .int .i64 hi] w fun e w' => e = .returned (.bool (inB n lo hi)) ∧ w = w' := by
  unfold inB
  by_cases h : lo ≤ n
  all_goals
    go_enter Try.func53, Try.ntmps53
    go_wp2
    go_ret
    exact ⟨by first | (simp [h]; done) | (simp; omega), rfl⟩
theorem inside_any (W : World) (x y lo hi : Int) (w : World) (hX : Ext W w) :
    Calls Try.prog 54 #[.agg #[.int .i64 x, .int .i64 y], .int .i64 lo, .int .i64 hi] w fun e w' => e = .returned (.bool (spB x y lo hi)) ∧ Ext W w' := by
  unfold spB
  by_cases h : lo ≤ x
  · by_cases h2 : x ≤ y
    all_goals
      go_enter Try.func54, Try.ntmps54
      go_wp2
      go_ret
      exact ⟨by first | (simp [h, h2]; done) | (simp; omega), hX.alloc _⟩
  · go_enter Try.func54, Try.ntmps54
    go_wp2
    go_ret
    exact ⟨by simp; omega, hX.alloc _⟩
/-- a function value of number g is entered as it is -/
def Enters (g : Nat) : Prop := ∀ (args : Array Value) (w : World), (callFunc g args).run Try.prog w = .ok (.enter g args) w
/-- find's closure -/
theorem findC_any (W : World) (x : Five) (id : Int) (b : Nat) (w : World) (hX : Ext W w) (hc : w.cell? ⟨b, 0, none⟩ = some (.int .i64 id)) :
    Calls Try.prog 91 #[v5 x, .pointer (some ⟨b, 0, none⟩)] w fun e w' => e = .returned (.bool (x.a == id)) ∧ Ext W w' := by
  have hb := lt_of_cell hc
  go_enter Try.func91, Try.ntmps91
  go_wp2
  go_ret
  exact ⟨rfl, hX.alloc _⟩
/-- the index of the first element with a property, or -1 -/
def idx (p : Five → Bool) (l : List Five) : Int := match l.findIdx? p with | some i => (i : Int) | none => -1
theorem idx_none {p : Five → Bool} {l : List Five} (h : ∀ i, (hi : i < l.length) → p l[i] = false) : idx p l = -1 := by
  unfold idx
  rw [List.findIdx?_eq_none_iff.2 (fun x hx => by obtain ⟨i, hi, rfl⟩ := List.mem_iff_getElem.1 hx; exact h i hi)]
theorem idx_some {p : Five → Bool} {l : List Five} {k : Nat} (hk : k < l.length) (h : p l[k] = true) (hn : ∀ i, (hi : i < k) → p (l[i]'(by omega)) = false) : idx p l = k := by
  unfold idx
  rw [List.findIdx?_eq_some_iff_getElem.2 ⟨hk, h, fun j hj => by rw [hn j hj]; simp⟩]
set_option maxRecDepth 100000 in
set_option maxHeartbeats 1000000 in
theorem indexChain_any (W : World) (l : List Five) (v : Value) (g : Nat) (c : Value) (p : Five → Bool) (w : World) (hX : Ext W w) (hv : Fives w v l) (hg : Enters g)
    (hp : ∀ i, (h : i < l.length) → ∀ w', Ext w w' → Calls Try.prog g #[v5 l[i], c] w' fun e w'' => e = .returned (.bool (p l[i])) ∧ Ext w' w'') :
    Calls Try.prog 90 #[v, .func (.func g) #[] #[c]] w fun e w' => e = .returned (.int .i64 (idx p l)) ∧ Ext W w' := by
  obtain ⟨a, cap, rfl, hl, hm, hc⟩ := hv.parts
  have hg' := hg
  unfold Enters at hg'
  have HP := Lib.hid hp
  have HC := Lib.hid hc
  unfold maxLen at hm
  have hml : l.length ≤ 9223372036854775807 := by omega
  clear hp hc hm hv
  go_enter Try.func90, Try.ntmps90
  go_wp2
  go_loopw [5, 8] (fun _ i wr => ∃ k : Nat, k ≤ l.length ∧ i = .int .i64 k ∧ (∀ j, (hj : j < k) → (h : j < l.length) → p l[j] = false) ∧ Ext w wr) (fun _ i _ => l.length - (intOf i).toNat)
  case atStart => exact ⟨0, Nat.zero_le _, rfl, fun j hj => absurd hj (by omega), Ext.refl _⟩
  case round =>
    obtain ⟨k, hk, rfl, hn, hE⟩ := hrel
    have HN := Lib.hid hn
    clear hn
    by_cases hlt : k < l.length
    · have h5 : ∃ b off, a = some ⟨b, off, none⟩ ∧ At5 wr b (off + k * 5) l[k] := by
        rcases HC.out with h | ⟨b, off, ha, h⟩
        · simp [h] at hlt
        · exact ⟨b, off, ha, (h k hlt).ext hE⟩
      obtain ⟨b, off, rfl, c0, c1, c2, c3, c4⟩ := h5
      have hpk := HP.out k hlt wr hE
      obtain ⟨x, hx⟩ : ∃ x, x = l[k] := ⟨_, rfl⟩
      rw [← hx] at c0 c1 c2 c3 c4 hpk
      have HX := Lib.hid hx
      have HK := Lib.hid hpk
      clear hx hpk
      cases hpb : p x
      all_goals
        go_wp2_with fail
        refine HK.out.mono ?_
        rintro e w1 ⟨rfl, hX1⟩
        rw [hpb]
        go_wp2_with fail
      · go_roundw
        case rel =>
          refine ⟨k + 1, by omega, by go_num, fun j hj h => ?_, hE.trans hX1⟩
          by_cases e : j = k
          · subst e; rw [← HX.out]; exact hpb
          · exact HN.out j (by omega) h
        case measure => simp [intOf]; omega
      · go_ret
        exact ⟨by rw [idx_some hlt (by rw [← HX.out]; exact hpb) (fun i hi => HN.out i hi (by omega))]; rfl, hX.trans (hE.trans hX1)⟩
    · obtain rfl : k = l.length := by omega
      go_wp2_with fail
      go_ret
      exact ⟨by rw [idx_none (fun i hi => HN.out i hi hi)]; rfl, hX.trans hE⟩
set_option maxRecDepth 100000 in
set_option maxHeartbeats 1000000 in
theorem indexRepair_any (W : World) (l : List Five) (v : Value) (g : Nat) (c : Value) (p : Five → Bool) (w : World) (hX : Ext W w) (hv : Fives w v l) (hg : Enters g)
    (hp : ∀ i, (h : i < l.length) → ∀ w', Ext w w' → Calls Try.prog g #[v5 l[i], c] w' fun e w'' => e = .returned (.bool (p l[i])) ∧ Ext w' w'') :
    Calls Try.prog 92 #[v, .func (.func g) #[] #[c]] w fun e w' => e = .returned (.int .i64 (idx p l)) ∧ Ext W w' := by
  obtain ⟨a, cap, rfl, hl, hm, hc⟩ := hv.parts
  have hg' := hg
  unfold Enters at hg'
  have HP := Lib.hid hp
  have HC := Lib.hid hc
  unfold maxLen at hm
  have hml : l.length ≤ 9223372036854775807 := by omega
  clear hp hc hm hv
  go_enter Try.func92, Try.ntmps92
  go_wp2
  go_loopw [5, 8] (fun _ i wr => ∃ k : Nat, k ≤ l.length ∧ i = .int .i64 k ∧ (∀ j, (hj : j < k) → (h : j < l.length) → p l[j] = false) ∧ Ext w wr) (fun _ i _ => l.length - (intOf i).toNat)
  case atStart => exact ⟨0, Nat.zero_le _, rfl, fun j hj => absurd hj (by omega), Ext.refl _⟩
  case round =>
    obtain ⟨k, hk, rfl, hn, hE⟩ := hrel
    have HN := Lib.hid hn
    clear hn
    by_cases hlt : k < l.length
    · have h5 : ∃ b off, a = some ⟨b, off, none⟩ ∧ At5 wr b (off + k * 5) l[k] := by
        rcases HC.out with h | ⟨b, off, ha, h⟩
        · simp [h] at hlt
        · exact ⟨b, off, ha, (h k hlt).ext hE⟩
      obtain ⟨b, off, rfl, c0, c1, c2, c3, c4⟩ := h5
      have hpk := HP.out k hlt wr hE
      obtain ⟨x, hx⟩ : ∃ x, x = l[k] := ⟨_, rfl⟩
      rw [← hx] at c0 c1 c2 c3 c4 hpk
      have HX := Lib.hid hx
      have HK := Lib.hid hpk
      clear hx hpk
      cases hpb : p x
      all_goals
        go_wp2_with fail
        refine HK.out.mono ?_
        rintro e w1 ⟨rfl, hX1⟩
        rw [hpb]
        go_wp2_with fail
      · go_roundw
        case rel =>
          refine ⟨k + 1, by omega, by go_num, fun j hj h => ?_, hE.trans hX1⟩
          by_cases e : j = k
          · subst e; rw [← HX.out]; exact hpb
          · exact HN.out j (by omega) h
        case measure => simp [intOf]; omega
      · go_ret
        exact ⟨by rw [idx_some hlt (by rw [← HX.out]; exact hpb) (fun i hi => HN.out i hi (by omega))]; rfl, hX.trans (hE.trans hX1)⟩
    · obtain rfl : k = l.length := by omega
      go_wp2_with fail
      go_ret
      exact ⟨by rw [idx_none (fun i hi => HN.out i hi hi)]; rfl, hX.trans hE⟩
set_option maxRecDepth 100000 in
set_option maxHeartbeats 1000000 in
theorem indexProof_any (W : World) (l : List Five) (v : Value) (g : Nat) (c : Value) (p : Five → Bool) (w : World) (hX : Ext W w) (hv : Fives w v l) (hg : Enters g)
    (hp : ∀ i, (h : i < l.length) → ∀ w', Ext w w' → Calls Try.prog g #[v5 l[i], c] w' fun e w'' => e = .returned (.bool (p l[i])) ∧ Ext w' w'') :
    Calls Try.prog 127 #[v, .func (.func g) #[] #[c]] w fun e w' => e = .returned (.int .i64 (idx p l)) ∧ Ext W w' := by
  obtain ⟨a, cap, rfl, hl, hm, hc⟩ := hv.parts
  have hg' := hg
  unfold Enters at hg'
  have HP := Lib.hid hp
  have HC := Lib.hid hc
  unfold maxLen at hm
  have hml : l.length ≤ 9223372036854775807 := by omega
  clear hp hc hm hv
  go_enter Try.func127, Try.ntmps127
  go_wp2
  go_loopw [5, 8] (fun _ i wr => ∃ k : Nat, k ≤ l.length ∧ i = .int .i64 k ∧ (∀ j, (hj : j < k) → (h : j < l.length) → p l[j] = false) ∧ Ext w wr) (fun _ i _ => l.length - (intOf i).toNat)
  case atStart => exact ⟨0, Nat.zero_le _, rfl, fun j hj => absurd hj (by omega), Ext.refl _⟩
  case round =>
    obtain ⟨k, hk, rfl, hn, hE⟩ := hrel
    have HN := Lib.hid hn
    clear hn
    by_cases hlt : k < l.length
    · have h5 : ∃ b off, a = some ⟨b, off, none⟩ ∧ At5 wr b (off + k * 5) l[k] := by
        rcases HC.out with h | ⟨b, off, ha, h⟩
        · simp [h] at hlt
        · exact ⟨b, off, ha, (h k hlt).ext hE⟩
      obtain ⟨b, off, rfl, c0, c1, c2, c3, c4⟩ := h5
      have hpk := HP.out k hlt wr hE
      obtain ⟨x, hx⟩ : ∃ x, x = l[k] := ⟨_, rfl⟩
      rw [← hx] at c0 c1 c2 c3 c4 hpk
      have HX := Lib.hid hx
      have HK := Lib.hid hpk
      clear hx hpk
      cases hpb : p x
      all_goals
        go_wp2_with fail
        refine HK.out.mono ?_
        rintro e w1 ⟨rfl, hX1⟩
        rw [hpb]
        go_wp2_with fail
      · go_roundw
        case rel =>
          refine ⟨k + 1, by omega, by go_num, fun j hj h => ?_, hE.trans hX1⟩
          by_cases e : j = k
          · subst e; rw [← HX.out]; exact hpb
          · exact HN.out j (by omega) h
        case measure => simp [intOf]; omega
      · go_ret
        exact ⟨by rw [idx_some hlt (by rw [← HX.out]; exact hpb) (fun i hi => HN.out i hi (by omega))]; rfl, hX.trans (hE.trans hX1)⟩
    · obtain rfl : k = l.length := by omega
      go_wp2_with fail
      go_ret
      exact ⟨by rw [idx_none (fun i hi => HN.out i hi hi)]; rfl, hX.trans hE⟩
theorem enters_find : Enters 91 := fun _ _ => by kernel_rfl
def zero5 : Five := ⟨0, 0, 0, 0, 0⟩
theorem brule {w w' : World} (h : Ext w w') : (∀ b o, b < w.heap.size → w'.cell? ⟨b, o, none⟩ = w.cell? ⟨b, o, none⟩) ∧ (∀ b o, b < w.heap.size → w'.frozen? ⟨b, o, none⟩ = w.frozen? ⟨b, o, none⟩) :=
  ⟨h.rule, fun b _ hb => Below.frozen h (p := ⟨b, _, none⟩) hb⟩
/-- what find returns -/
def findV (C : List Five) (id : Int) : Value := match findC C id with | some c => .tuple #[v5 c, .bool true] | none => .tuple #[v5 zero5, .bool false]
theorem findV_some {C : List Five} {id : Int} {c : Five} (h : findC C id = some c) : findV C id = .tuple #[v5 c, .bool true] := by simp [findV, h]
theorem findV_none {C : List Five} {id : Int} (h : findC C id = none) : findV C id = .tuple #[v5 zero5, .bool false] := by simp [findV, h]
theorem idx_find (p : Five → Bool) (l : List Five) : (idx p l = -1 ∧ l.find? p = none) ∨ ∃ k, ∃ h : k < l.length, idx p l = (k : Nat) ∧ l.find? p = some l[k] := by
  unfold idx
  cases h : l.findIdx? p with
  | none =>
    left
    refine ⟨rfl, ?_⟩
    rw [List.findIdx?_eq_none_iff] at h
    exact List.find?_eq_none.2 (fun x hx => by simp [h x hx])
  | some k =>
    right
    obtain ⟨hk, hp, hn⟩ := List.findIdx?_eq_some_iff_getElem.1 h
    refine ⟨k, hk, rfl, ?_⟩
    rw [List.find?_eq_some_iff_getElem]
    exact ⟨hp, k, hk, rfl, fun j hj => by simpa using hn j hj⟩
set_option maxRecDepth 100000 in
set_option maxHeartbeats 1000000 in
theorem find_any (W : World) (C : List Five) (vC vP vR : Value) (id : Int) (w : World) (hX : Ext W w) (hC : Fives w vC C) :
    Calls Try.prog 55 #[.agg #[vC, vP, vR], .int .i64 id] w fun e w' => e = .returned (findV C id) ∧ Ext W w' := by
  go_enter Try.func55, Try.ntmps55
  go_wp2_with fail
  have hX0 : Ext w (((w.alloc (.cells #[vC, vP, vR] 26)).alloc (.cells #[.int .i64 id] 3)).alloc (.cells #[.int .i64 0, .int .i64 0, .int .i64 0, .int .i64 0, .int .i64 0] 53)) := (((Ext.refl w).alloc _).alloc _).alloc _
  have hid : (((w.alloc (.cells #[vC, vP, vR] 26)).alloc (.cells #[.int .i64 id] 3)).alloc (.cells #[.int .i64 0, .int .i64 0, .int .i64 0, .int .i64 0, .int .i64 0] 53)).cell? ⟨w.heap.size + 1, 0, none⟩ = some (.int .i64 id) := by go_simp
  with_reducible refine (indexChain_any _ C _ _ _ (fun c => c.a == id) _ (Ext.refl _) (hC.ext hX0) enters_find (fun i hi w' hw => findC_any _ _ id _ _ (Ext.refl _) (hw.cell hid))).mono ?_
  rintro e w1 ⟨rfl, hX1⟩
  clear hid
  obtain ⟨hr, hf⟩ := brule hX1
  have hz := hX1.le
  simp at hz
  have hz1 : w.heap.size + 1 < w1.heap.size := by omega
  have hz2 : w.heap.size + 2 < w1.heap.size := by omega
  have hz3 : w.heap.size < w1.heap.size := by omega
  rcases idx_find (fun c => c.a == id) C with ⟨hi, hf2⟩ | ⟨k, hk, hi, hf2⟩
  · rw [hi]
    have HF := Lib.hid hf2
    clear hi hf2
    go_wp2_with fail
    refine bodyPost_ret (v := .tuple #[v5 zero5, .bool false]) (by simp [results, Try.results55, zero5, hr, go_sem]) rfl ⟨by rw [findV_none HF.out], ?_⟩
    have hle := hX.le
    repeat (first | exact hX.trans (hX0.trans hX1) | refine Ext.setCell ?_ (by simp; omega) _)
  · rw [hi]
    have HF := Lib.hid hf2
    clear hi hf2
    obtain ⟨a, cap, rfl, hl, hm, hc⟩ := Fives.parts ((hC.ext hX0).ext hX1)
    obtain ⟨b, off, rfl, hc2⟩ := hc.resolve_left (fun e => by simp [e] at hk)
    obtain ⟨x, hx⟩ : ∃ x, x = C[k] := ⟨_, rfl⟩
    have h5 := hc2 k hk
    rw [← hx] at h5
    rw [← hx] at HF
    obtain ⟨c0, c1, c2, c3, c4⟩ := h5
    clear hc2 hc hx hC
    go_wp2_with fail
    refine bodyPost_ret (v := .tuple #[v5 x, .bool true]) (by simp [results, Try.results55, hr, go_sem]) rfl ⟨by rw [findV_some HF.out], ?_⟩
    have hle := hX.le
    repeat (first | exact hX.trans (hX0.trans hX1) | refine Ext.setCell ?_ (by simp; omega) _)
/-- works in memory -/
def Wk (w : World) (v : Value) (C P R : List Five) : Prop := ∃ vC vP vR, v = .agg #[vC, vP, vR] ∧ Fives w vC C ∧ Fives w vP P ∧ Fives w vR R ∧ C.length + P.length + R.length ≤ 1000000000000000
theorem Wk.ext {w w' : World} {v : Value} {C P R : List Five} (h : Wk w v C P R) (x : Ext w w') : Wk w' v C P R := by
  obtain ⟨vC, vP, vR, hv, h1, h2, h3, h4⟩ := h
  exact ⟨vC, vP, vR, hv, h1.ext x, h2.ext x, h3.ext x, h4⟩
end Go.Proofs.Ytaggjclaehigjaa
