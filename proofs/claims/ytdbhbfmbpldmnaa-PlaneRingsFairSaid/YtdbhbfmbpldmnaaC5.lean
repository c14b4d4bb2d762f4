import Derived.Test.YtdbhbfmbpldmnaaC4
namespace Go.Proofs.Ytdbhbfmbpldmnaa
open Go.RowKit
def alStep (keep : Int × Int → Bool) (acc : List (Int × Int)) (p : Int × Int) : List (Int × Int) := if keep p && !decide (p ∈ acc) then acc ++ [p] else acc
def alF (keep : Int × Int → Bool) (l : List (Int × Int)) : List (Int × Int) := l.foldl (alStep keep) []
def alKeep (ax ay bx b_y cx cy dx dy : Int) (p : Int × Int) : Bool := onB ax ay bx b_y p.1 p.2 && onB cx cy dx dy p.1 p.2
def alZ (ax ay bx b_y cx cy dx dy : Int) : Int :=
  match (alF (alKeep ax ay bx b_y cx cy dx dy) [(ax, ay), (bx, b_y), (cx, cy), (dx, dy)]).length with
  | 0 => 0
  | 1 => 1
  | _ => 3
theorem alF_snoc (keep : Int × Int → Bool) (l : List (Int × Int)) (k : Nat) (hk : k < l.length) : alF keep (l.take (k + 1)) = alStep keep (alF keep (l.take k)) l[k] := by
  unfold alF
  rw [List.take_succ_eq_append_getElem hk, List.foldl_append]
  rfl
theorem alF_len (keep : Int × Int → Bool) (l : List (Int × Int)) : (alF keep l).length ≤ l.length := by
  have : ∀ (l acc : List (Int × Int)), (l.foldl (alStep keep) acc).length ≤ acc.length + l.length := by
    intro l
    induction l with
    | nil => intro acc; simp
    | cons p l ih =>
      intro acc
      refine Nat.le_trans (ih _) ?_
      unfold alStep
      split <;> simp <;> omega
  have h := this l []
  unfold alF
  simpa using h
def W91 (w : World) (ax ay bx b_y cx cy dx dy : Int) : World :=
  (((w.alloc (.cells #[.int .i64 ax, .int .i64 ay, .int .i64 bx, .int .i64 b_y] 34)).alloc (.cells #[.int .i64 cx, .int .i64 cy, .int .i64 dx, .int .i64 dy] 34)).alloc
    (.cells #[.int .i64 ax, .int .i64 ay, .int .i64 bx, .int .i64 b_y, .int .i64 cx, .int .i64 cy, .int .i64 dx, .int .i64 dy] 23))
theorem W91_size (w : World) (ax ay bx b_y cx cy dx dy : Int) : (W91 w ax ay bx b_y cx cy dx dy).heap.size = w.heap.size + 3 := by simp [W91]
set_option maxRecDepth 100000 in
set_option maxHeartbeats 800000 in
theorem along_any (W : World) (ax ay bx b_y cx cy dx dy : Int) (w : World) (hX : Ext W w) (h1 : okc ax) (h2 : okc ay) (h3 : okc bx) (h4 : okc b_y) (h5 : okc cx) (h6 : okc cy) (h7 : okc dx) (h8 : okc dy) :
    Calls Try.prog 91 #[.agg #[.int .i64 ax, .int .i64 ay, .int .i64 bx, .int .i64 b_y], .agg #[.int .i64 cx, .int .i64 cy, .int .i64 dx, .int .i64 dy]] w fun e w' => e = .returned (.int .i64 (alZ ax ay bx b_y cx cy dx dy)) ∧ Ext W w' := by
  obtain ⟨i0, hi, hz0, hz1, hz2⟩ := info_parts info23
  obtain ⟨L, hL⟩ : ∃ L : List (Int × Int), L = [(ax, ay), (bx, b_y), (cx, cy), (dx, dy)] := ⟨_, rfl⟩
  have hok : Hid (∀ k, (h : k < L.length) → okc (L[k]).1 = true ∧ okc (L[k]).2 = true) := by
    intro k hk
    have key : ∀ p ∈ L, okc p.1 = true ∧ okc p.2 = true := by
      intro p hp
      rw [hL] at hp
      simp at hp
      rcases hp with e | e | e | e <;> rw [e] <;> simp [*]
    exact key _ (List.getElem_mem hk)
  have hlen : L.length ≤ 4 ∧ 4 ≤ L.length := by rw [hL]; simp
  have HL := Lib.hid hL
  clear hL
  go_enter Try.func91, Try.ntmps91
  go_wp2_with fail
  go_loopw [5, 7, 18] (fun v _ j wr => ∃ k : Nat, k ≤ 4 ∧ j = .int .i64 k ∧ Own (w.heap.size + 3) wr v (alF (alKeep ax ay bx b_y cx cy dx dy) (L.take k)) ∧ Ext (W91 w ax ay bx b_y cx cy dx dy) wr) (fun _ _ j _ => 4 - (intOf j).toNat)
  case atStart => exact ⟨0, Nat.zero_le _, rfl, Own.nil _ _, Ext.refl _⟩
  case round =>
    obtain ⟨k, hk, rfl, hown, hx⟩ := hrel
    by_cases hlt : k < 4
    · have hpt : Pts (W91 w ax ay bx b_y cx cy dx dy) (.slice (some ⟨w.heap.size + 1 + 1, 0, none⟩) L.length L.length) L := Pts_mk (by simp) (by rw [HL.out]; rfl) rfl (by simp [maxLen]; omega)
      obtain ⟨a, cap, e, _, _, hc⟩ := hpt
      cases e
      obtain ⟨b, off, e, hcc⟩ := hc.resolve_left (fun h => by simp [h] at hlen)
      cases e
      have hkl : k < L.length := by omega
      obtain ⟨px, py, hp⟩ : ∃ px py, L[k] = (px, py) := ⟨_, _, rfl⟩
      have e1 := hx.cell (hcc k hkl).1
      have e2 := hx.cell (hcc k hkl).2
      obtain ⟨o1, o2⟩ := hok.out k hkl
      rw [hp] at e1 e2 o1 o2
      have hk' := alF_snoc (alKeep ax ay bx b_y cx cy dx dy) L k hkl
      rw [hp] at hk'
      have HK := Lib.hid hk'
      clear hk'
      clear hp
      simp only [Nat.zero_add] at e1 e2 o1 o2
      clear hcc hc
      have hr : ∀ b o, b < w.heap.size + 1 + 1 → wr.cell? ⟨b, o, none⟩ = (W91 w ax ay bx b_y cx cy dx dy).cell? ⟨b, o, none⟩ := fun b o hb => hx.rule b o (by rw [W91_size]; omega)
      have hz : w.heap.size + 3 ≤ wr.heap.size := by have := hx.size; rw [W91_size] at this; exact this
      have c0 : wr.cell? ⟨w.heap.size, 0, none⟩ = some (.int .i64 ax) := (hr _ _ (by omega)).trans (by unfold W91; simp [go_sem])
      have c1 : wr.cell? ⟨w.heap.size, 1, none⟩ = some (.int .i64 ay) := (hr _ _ (by omega)).trans (by unfold W91; simp [go_sem])
      have c2 : wr.cell? ⟨w.heap.size, 2, none⟩ = some (.int .i64 bx) := (hr _ _ (by omega)).trans (by unfold W91; simp [go_sem])
      have c3 : wr.cell? ⟨w.heap.size, 3, none⟩ = some (.int .i64 b_y) := (hr _ _ (by omega)).trans (by unfold W91; simp [go_sem])
      have d0 : wr.cell? ⟨w.heap.size + 1, 0, none⟩ = some (.int .i64 cx) := (hr _ _ (by omega)).trans (by unfold W91; simp [go_sem])
      have d1 : wr.cell? ⟨w.heap.size + 1, 1, none⟩ = some (.int .i64 cy) := (hr _ _ (by omega)).trans (by unfold W91; simp [go_sem])
      have d2 : wr.cell? ⟨w.heap.size + 1, 2, none⟩ = some (.int .i64 dx) := (hr _ _ (by omega)).trans (by unfold W91; simp [go_sem])
      have d3 : wr.cell? ⟨w.heap.size + 1, 3, none⟩ = some (.int .i64 dy) := (hr _ _ (by omega)).trans (by unfold W91; simp [go_sem])
      clear hr
      have z0 : w.heap.size < wr.heap.size := by omega
      have z1 : w.heap.size + 1 < wr.heap.size := by omega
      have z2 : w.heap.size + 1 + 1 < wr.heap.size := by omega
      have y0 : w.heap.size ≤ wr.heap.size := by omega
      have y1 : w.heap.size + 1 ≤ wr.heap.size := by omega
      have y2 : w.heap.size + 1 + 1 ≤ wr.heap.size := by omega
      have hu39 := Try.underlying39
      go_wp2_with (first | (go_at_call 88; refine (on_any _ _ _ _ _ _ _ _ (by first | assumption | exact Ext.refl _) (by assumption) (by assumption) (by assumption) (by assumption) (by assumption) (by assumption)).mono ?_; rintro e w' ⟨rfl, hX1⟩; have hr := hX1.rule) | (go_at_call 110; refine (contP_any _ _ (alF (alKeep ax ay bx b_y cx cy dx dy) (L.take k)) _ _ _ (by assumption) (Own.ext hown (Ext.b1 (Ext.refl _) (by assumption))).pts).mono ?_; rintro e w' ⟨rfl, hX1⟩; have hr := hX1.rule) | (at_builtin; refine app_pt rfl (.tmp 42) (.tmp 44) rfl (w.heap.size + 3) _ _ rfl (Own.ext hown ((Ext.b1 (Ext.refl _) (by assumption)).alloc _)) _ px py rfl ?c1 ?c2 ?c3 ((Ext.b1 (Ext.refl wr) (by assumption)).alloc _) hz ?_))
      case c1 => go_simp
      case c2 => go_simp
      case c3 =>
        have h := alF_len (alKeep ax ay bx b_y cx cy dx dy) (L.take k)
        rw [List.length_take] at h
        omega
      · intro v' w1 ho hg hext
        have g1 : onB ax ay bx b_y px py = true := by assumption
        have g2 : onB cx cy dx dy px py = true := by assumption
        have g3 : (!decide ((px, py) ∈ alF (alKeep ax ay bx b_y cx cy dx dy) (List.take k L))) = true := by assumption
        have HS := Lib.hid (show alF (alKeep ax ay bx b_y cx cy dx dy) (L.take (k + 1)) = alF (alKeep ax ay bx b_y cx cy dx dy) (L.take k) ++ [(px, py)] by
          rw [HK.out, alStep, if_pos (by rw [alKeep, g1, g2, g3]; rfl)])
        clear g1 g2 g3
        go_wp2_with fail
        refine ⟨⟨k + 1, by omega, by go_num, ?_, ?_⟩, by simp [intOf]; omega⟩
        · rw [HS.out]; exact ho
        · exact hext _ (by rw [W91_size]; exact Nat.le_refl _) ((hx.b1 (by assumption)).alloc _)
      all_goals
        refine ⟨⟨k + 1, by omega, by go_num, ?_, hx.b1 (by assumption)⟩, by simp [intOf]; omega⟩
        rw [HK.out, alStep, if_neg (by simp_all [alKeep])]
        exact hown.ext (Ext.b1 (Ext.refl _) (by assumption))
    · have hE : L.take k = L := List.take_of_length_le (by omega)
      rw [hE, HL.out] at hown
      clear hE
      have hfl := alF_len (alKeep ax ay bx b_y cx cy dx dy) [(ax, ay), (bx, b_y), (cx, cy), (dx, dy)]
      obtain ⟨a, cap, hv, hl1, hm1, _⟩ := hown.pts
      have hZ : alZ ax ay bx b_y cx cy dx dy = match (alF (alKeep ax ay bx b_y cx cy dx dy) [(ax, ay), (bx, b_y), (cx, cy), (dx, dy)]).length with | 0 => 0 | 1 => 1 | _ => 3 := rfl
      obtain ⟨N, hN⟩ : ∃ N, (alF (alKeep ax ay bx b_y cx cy dx dy) [(ax, ay), (bx, b_y), (cx, cy), (dx, dy)]).length = N := ⟨_, rfl⟩
      rw [hN] at hfl hv hZ
      have HZ := Lib.hid hZ
      have hN4 : N ≤ 4 := hfl
      clear hown hN hfl hl1 hm1 hZ
      subst hv
      match N, hN4, HZ with
      | 0, _, HZ => go_wp2_with fail; go_ret; exact ⟨ret_int HZ.out.symm, hX.b3 (hx.alloc _)⟩
      | 1, _, HZ => go_wp2_with fail; go_ret; exact ⟨ret_int HZ.out.symm, hX.b3 (hx.alloc _)⟩
      | 2, _, HZ => go_wp2_with fail; go_ret; exact ⟨ret_int HZ.out.symm, hX.b3 (hx.alloc _)⟩
      | 3, _, HZ => go_wp2_with fail; go_ret; exact ⟨ret_int HZ.out.symm, hX.b3 (hx.alloc _)⟩
      | 4, _, HZ => go_wp2_with fail; go_ret; exact ⟨ret_int HZ.out.symm, hX.b3 (hx.alloc _)⟩
      | (n + 5), h, _ => exact absurd h (by omega)
end Go.Proofs.Ytdbhbfmbpldmnaa
