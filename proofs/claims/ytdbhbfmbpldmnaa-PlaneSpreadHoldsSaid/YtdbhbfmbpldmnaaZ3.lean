/- Contract of the statement's helper attained. -/
import Derived.Test.YtdbhbfmbpldmnaaZ2
import Derived.StillTailTactics
namespace Go.Proofs.Ytdbhbfmbpldmnaa
open Go.RowKit Go.Sort
theorem area_spr {a b c d e f g h i j k l : Int} (h1 : boxB a b c d = true) (h2 : boxB e f g h = true) (h3 : boxB i j k l = true) (n : Nat) :
    areaR [cnr a b c d (n / 16), cnr e f g h (n / 4 % 4), cnr i j k l (n % 4)] = (spr3 (cnr a b c d) (cnr e f g h) (cnr i j k l) n, 0) :=
  area3 _ _ _ _ _ _ (hold_okp (cnr_hold a b c d _ h1)) (hold_okp (cnr_hold e f g h _ h2)) (hold_okp (cnr_hold i j k l _ h3))
set_option maxRecDepth 100000 in
set_option maxHeartbeats 16000000 in
theorem attained_any (W : World) (a b c d e f g h i j k l lo hi : Int) (w : World) (hX : Ext W w) (P1 : Hid (boxB a b c d = true)) (P2 : Hid (boxB e f g h = true)) (P3 : Hid (boxB i j k l = true))
    (hlo : ∃ m, m < 64 ∧ spr3 (cnr a b c d) (cnr e f g h) (cnr i j k l) m = lo) (hhi : ∃ m, m < 64 ∧ spr3 (cnr a b c d) (cnr e f g h) (cnr i j k l) m = hi) :
    Calls Try.prog 72 #[bxV a b c d, bxV e f g h, bxV i j k l, spV lo hi] w fun en w' => en = .returned (.bool true) ∧ Ext W w' := by
  obtain ⟨F, hF⟩ : ∃ F, spr3 (cnr a b c d) (cnr e f g h) (cnr i j k l) = F := ⟨_, rfl⟩
  have HA : Hid (anyB F 64 lo = true) := decide_eq_true (hF ▸ hlo)
  have HB : Hid (anyB F 64 hi = true) := decide_eq_true (hF ▸ hhi)
  have HT : Hid (∀ n, areaR [cnr a b c d (n / 16), cnr e f g h (n / 4 % 4), cnr i j k l (n % 4)] = (F n, 0)) := by unfold Hid; intro n; rw [area_spr P1.out P2.out P3.out, hF]
  clear hF hlo hhi
  go_enter Try.func72, Try.ntmps72
  go_wp2_with fail
  have bA := (((BoxN.new w 52 (bxC a b c d)).ext ((Ext.refl _).alloc (.cells (bxC e f g h) 52))).ext ((Ext.refl _).alloc (.cells (bxC i j k l) 52))).ext ((Ext.refl _).alloc (.cells (spC (lo, hi)) 50))
  have bB := ((BoxN.new (w.alloc (.cells (bxC a b c d) 52)) 52 (bxC e f g h)).ext ((Ext.refl _).alloc (.cells (bxC i j k l) 52))).ext ((Ext.refl _).alloc (.cells (spC (lo, hi)) 50))
  have bC := (BoxN.new ((w.alloc (.cells (bxC a b c d) 52)).alloc (.cells (bxC e f g h) 52)) 52 (bxC i j k l)).ext ((Ext.refl _).alloc (.cells (spC (lo, hi)) 50))
  have bD := BoxN.new (((w.alloc (.cells (bxC a b c d) 52)).alloc (.cells (bxC e f g h) 52)).alloc (.cells (bxC i j k l) 52)) 50 (spC (lo, hi))
  rw [World.size_alloc] at bB
  rw [World.size_alloc, World.size_alloc] at bC
  rw [World.size_alloc, World.size_alloc, World.size_alloc] at bD
  have hW := (((hX.alloc (.cells (bxC a b c d) 52)).alloc (.cells (bxC e f g h) 52)).alloc (.cells (bxC i j k l) 52)).alloc (.cells (spC (lo, hi)) 50)
  change Calls _ _ _ ((((w.alloc (.cells (bxC a b c d) 52)).alloc (.cells (bxC e f g h) 52)).alloc (.cells (bxC i j k l) 52)).alloc (.cells (spC (lo, hi)) 50)) _
  generalize (((w.alloc (.cells (bxC a b c d) 52)).alloc (.cells (bxC e f g h) 52)).alloc (.cells (bxC i j k l) 52)).alloc (.cells (spC (lo, hi)) 50) = w3 at bA bB bC bD hW ⊢
  generalize w.heap.size + 1 + 1 + 1 = D at bD ⊢
  generalize w.heap.size + 1 + 1 = C at bC ⊢
  generalize w.heap.size + 1 = B at bB ⊢
  generalize w.heap.size = A at bA ⊢
  clear hX
  with_reducible refine (Corners_ok w3 a b c d _ (Ext.refl _) P1.out).mono ?_
  rintro en w4 ⟨rfl, hX⟩
  replace hW := hW.trans hX
  replace bB := bB.ext hX
  replace bC := bC.ext hX
  replace bD := bD.ext hX
  clear hX bA
  obtain ⟨kB0, kB1, kB2, kB3, _⟩ := bB.box4
  have kBl := bB.lt
  go_wp2_with fail
  clear kB0 kB1 kB2 kB3 kBl
  have bP := BoxN.new w4 82 #[.int .i64 (cnr a b c d 0).1, .int .i64 (cnr a b c d 0).2, .int .i64 (cnr a b c d 1).1, .int .i64 (cnr a b c d 1).2, .int .i64 (cnr a b c d 2).1, .int .i64 (cnr a b c d 2).2, .int .i64 (cnr a b c d 3).1, .int .i64 (cnr a b c d 3).2]
  have hX := (Ext.refl w4).alloc (.cells #[.int .i64 (cnr a b c d 0).1, .int .i64 (cnr a b c d 0).2, .int .i64 (cnr a b c d 1).1, .int .i64 (cnr a b c d 1).2, .int .i64 (cnr a b c d 2).1, .int .i64 (cnr a b c d 2).2, .int .i64 (cnr a b c d 3).1, .int .i64 (cnr a b c d 3).2] 82)
  obtain ⟨w5, hw⟩ : ∃ w', w4.alloc (.cells #[.int .i64 (cnr a b c d 0).1, .int .i64 (cnr a b c d 0).2, .int .i64 (cnr a b c d 1).1, .int .i64 (cnr a b c d 1).2, .int .i64 (cnr a b c d 2).1, .int .i64 (cnr a b c d 2).2, .int .i64 (cnr a b c d 3).1, .int .i64 (cnr a b c d 3).2] 82) = w' := ⟨_, rfl⟩
  change Calls _ _ _ (w4.alloc (.cells #[.int .i64 (cnr a b c d 0).1, .int .i64 (cnr a b c d 0).2, .int .i64 (cnr a b c d 1).1, .int .i64 (cnr a b c d 1).2, .int .i64 (cnr a b c d 2).1, .int .i64 (cnr a b c d 2).2, .int .i64 (cnr a b c d 3).1, .int .i64 (cnr a b c d 3).2] 82)) _
  rw [hw] at hX bP ⊢
  clear hw
  generalize w4.heap.size = P at bP ⊢
  replace hW := hW.trans hX
  replace bB := bB.ext hX
  replace bC := bC.ext hX
  replace bD := bD.ext hX
  clear hX
  with_reducible refine (Corners_ok w5 e f g h _ (Ext.refl _) P2.out).mono ?_
  rintro en w6 ⟨rfl, hX⟩
  replace hW := hW.trans hX
  replace bC := bC.ext hX
  replace bD := bD.ext hX
  replace bP := bP.ext hX
  clear hX bB
  obtain ⟨kC0, kC1, kC2, kC3, _⟩ := bC.box4
  have kCl := bC.lt
  go_wp2_with fail
  clear kC0 kC1 kC2 kC3 kCl
  have bQ := BoxN.new w6 82 #[.int .i64 (cnr e f g h 0).1, .int .i64 (cnr e f g h 0).2, .int .i64 (cnr e f g h 1).1, .int .i64 (cnr e f g h 1).2, .int .i64 (cnr e f g h 2).1, .int .i64 (cnr e f g h 2).2, .int .i64 (cnr e f g h 3).1, .int .i64 (cnr e f g h 3).2]
  have hX := (Ext.refl w6).alloc (.cells #[.int .i64 (cnr e f g h 0).1, .int .i64 (cnr e f g h 0).2, .int .i64 (cnr e f g h 1).1, .int .i64 (cnr e f g h 1).2, .int .i64 (cnr e f g h 2).1, .int .i64 (cnr e f g h 2).2, .int .i64 (cnr e f g h 3).1, .int .i64 (cnr e f g h 3).2] 82)
  obtain ⟨w7, hw⟩ : ∃ w', w6.alloc (.cells #[.int .i64 (cnr e f g h 0).1, .int .i64 (cnr e f g h 0).2, .int .i64 (cnr e f g h 1).1, .int .i64 (cnr e f g h 1).2, .int .i64 (cnr e f g h 2).1, .int .i64 (cnr e f g h 2).2, .int .i64 (cnr e f g h 3).1, .int .i64 (cnr e f g h 3).2] 82) = w' := ⟨_, rfl⟩
  change Calls _ _ _ (w6.alloc (.cells #[.int .i64 (cnr e f g h 0).1, .int .i64 (cnr e f g h 0).2, .int .i64 (cnr e f g h 1).1, .int .i64 (cnr e f g h 1).2, .int .i64 (cnr e f g h 2).1, .int .i64 (cnr e f g h 2).2, .int .i64 (cnr e f g h 3).1, .int .i64 (cnr e f g h 3).2] 82)) _
  rw [hw] at hX bQ ⊢
  clear hw
  generalize w6.heap.size = Q at bQ ⊢
  replace hW := hW.trans hX
  replace bC := bC.ext hX
  replace bD := bD.ext hX
  replace bP := bP.ext hX
  clear hX
  with_reducible refine (Corners_ok w7 i j k l _ (Ext.refl _) P3.out).mono ?_
  rintro en w8 ⟨rfl, hX⟩
  replace hW := hW.trans hX
  replace bD := bD.ext hX
  replace bP := bP.ext hX
  replace bQ := bQ.ext hX
  clear hX bC
  go_wp2_with fail
  have bU := BoxN.new w8 82 #[.int .i64 (cnr i j k l 0).1, .int .i64 (cnr i j k l 0).2, .int .i64 (cnr i j k l 1).1, .int .i64 (cnr i j k l 1).2, .int .i64 (cnr i j k l 2).1, .int .i64 (cnr i j k l 2).2, .int .i64 (cnr i j k l 3).1, .int .i64 (cnr i j k l 3).2]
  have hX := (Ext.refl w8).alloc (.cells #[.int .i64 (cnr i j k l 0).1, .int .i64 (cnr i j k l 0).2, .int .i64 (cnr i j k l 1).1, .int .i64 (cnr i j k l 1).2, .int .i64 (cnr i j k l 2).1, .int .i64 (cnr i j k l 2).2, .int .i64 (cnr i j k l 3).1, .int .i64 (cnr i j k l 3).2] 82)
  obtain ⟨w9, hw⟩ : ∃ w', w8.alloc (.cells #[.int .i64 (cnr i j k l 0).1, .int .i64 (cnr i j k l 0).2, .int .i64 (cnr i j k l 1).1, .int .i64 (cnr i j k l 1).2, .int .i64 (cnr i j k l 2).1, .int .i64 (cnr i j k l 2).2, .int .i64 (cnr i j k l 3).1, .int .i64 (cnr i j k l 3).2] 82) = w' := ⟨_, rfl⟩
  change Code.wp _ _ _ _ (w8.alloc (.cells #[.int .i64 (cnr i j k l 0).1, .int .i64 (cnr i j k l 0).2, .int .i64 (cnr i j k l 1).1, .int .i64 (cnr i j k l 1).2, .int .i64 (cnr i j k l 2).1, .int .i64 (cnr i j k l 2).2, .int .i64 (cnr i j k l 3).1, .int .i64 (cnr i j k l 3).2] 82))
  rw [hw] at hX bU ⊢
  clear hw
  generalize w8.heap.size = U at bU ⊢
  replace hW := hW.trans hX
  replace bD := bD.ext hX
  replace bP := bP.ext hX
  replace bQ := bQ.ext hX
  clear hX
  go_loopw [12, 13, 14] (fun y z x wr => ∃ n : Nat, x = .int .i64 n ∧ y = .bool (anyB F n lo) ∧ z = .bool (anyB F n hi) ∧ n ≤ 64 ∧ Ext w9 wr) (fun _ _ x _ => 64 - (intOf x).toNat)
  case atStart => exact ⟨0, rfl, by rw [anyB_zero], by rw [anyB_zero], by omega, Ext.refl _⟩
  case round =>
    obtain ⟨n, rfl, rfl, rfl, hn, hx1⟩ := hrel
    by_cases hn4 : n < 64
    · have hn4' : (n : Int) < 64 := by omega
      obtain ⟨x, hx⟩ : ∃ x, n / 16 = x := ⟨_, rfl⟩
      obtain ⟨q, hq⟩ : ∃ q, n / 4 = q := ⟨_, rfl⟩
      obtain ⟨y, hy⟩ : ∃ y, q % 4 = y := ⟨_, rfl⟩
      obtain ⟨z, hz⟩ : ∃ z, n % 4 = z := ⟨_, rfl⟩
      have hFn : areaR [cnr a b c d x, cnr e f g h y, cnr i j k l z] = (F n, 0) := by rw [← HT.out n, hx, hq, hy, hz]
      have HFn := Lib.hid hFn
      have lx : x < 4 := by omega
      have ly : y < 4 := by omega
      have lz : z < 4 := by omega
      have x4 : (x : Int) < 4 := by omega
      have y4 : (y : Int) < 4 := by omega
      have z4 : (z : Int) < 4 := by omega
      have w1 : IntKind.i64.wrap ((n : Int) / 16) = (x : Int) := by rw [IntKind.wrap_i64]; omega
      have w2 : IntKind.i64.wrap ((n : Int) / 4) = (q : Int) := by rw [IntKind.wrap_i64]; omega
      have w3' : (q : Int).tmod 4 = (y : Int) := by rw [Int.tmod_eq_emod_of_nonneg (by omega)]; omega
      have w4' : (n : Int).tmod 4 = (z : Int) := by rw [Int.tmod_eq_emod_of_nonneg (by omega)]; omega
      have w5' : (q : Int) % 4 = (y : Int) := by omega
      have w6' : (n : Int) % 4 = (z : Int) := by omega
      have w7' : IntKind.i64.wrap (y : Int) = (y : Int) := by rw [IntKind.wrap_i64]; omega
      have w8' : IntKind.i64.wrap (z : Int) = (z : Int) := by rw [IntKind.wrap_i64]; omega
      obtain ⟨p0, p1⟩ := cells8 (cnr a b c d) (bP.ext hx1) x lx
      obtain ⟨q0, q1⟩ := cells8 (cnr e f g h) (bQ.ext hx1) y ly
      obtain ⟨u0, u1⟩ := cells8 (cnr i j k l) (bU.ext hx1) z lz
      clear hFn hx hq hy hz
      go_wp2_with fail
      have hK2 : ∀ w', Ext wr w' → Ext wr w' ∧ (w'.cell? ⟨P, x * 2, none⟩ = some (.int .i64 (cnr a b c d x).1) ∧ w'.cell? ⟨P, x * 2 + 1, none⟩ = some (.int .i64 (cnr a b c d x).2)) ∧ (w'.cell? ⟨Q, y * 2, none⟩ = some (.int .i64 (cnr e f g h y).1) ∧ w'.cell? ⟨Q, y * 2 + 1, none⟩ = some (.int .i64 (cnr e f g h y).2)) ∧ (w'.cell? ⟨U, z * 2, none⟩ = some (.int .i64 (cnr i j k l z).1) ∧ w'.cell? ⟨U, z * 2 + 1, none⟩ = some (.int .i64 (cnr i j k l z).2)) := fun w' e => ⟨e, ⟨e.cell p0, e.cell p1⟩, ⟨e.cell q0, e.cell q1⟩, ⟨e.cell u0, e.cell u1⟩⟩
      have HK2 := Lib.hid hK2
      clear hK2
      have hX7 := Ext.refl wr
      go_region_held3 (fun w' => Ext wr w' ∧ (w'.cell? ⟨P, x * 2, none⟩ = some (.int .i64 (cnr a b c d x).1) ∧ w'.cell? ⟨P, x * 2 + 1, none⟩ = some (.int .i64 (cnr a b c d x).2)) ∧ (w'.cell? ⟨Q, y * 2, none⟩ = some (.int .i64 (cnr e f g h y).1) ∧ w'.cell? ⟨Q, y * 2 + 1, none⟩ = some (.int .i64 (cnr e f g h y).2)) ∧ (w'.cell? ⟨U, z * 2, none⟩ = some (.int .i64 (cnr i j k l z).1) ∧ w'.cell? ⟨U, z * 2 + 1, none⟩ = some (.int .i64 (cnr i j k l z).2))) (first | exact HK2.out _ (by assumption) | exact HK2.out _ (Ext.drew (by assumption)) | exact HK2.out _ (Ext.alloc (by assumption) _) | exact HK2.out _ (Ext.alloc (Ext.drew (by assumption)) _))
        ((go_at_call 31; refine (Area_any _ _ [cnr a b c d x, cnr e f g h y, cnr i j k l z] _ (Ext.refl _) (Pts.ext (Pts_mk (w := wr) rfl rfl rfl (by simp [maxLen])) (Ext.drew (Ext.refl _)))).mono ?_; rintro en w' ⟨rfl, hY⟩; rw [HFn.out]; have hX7 := ((Ext.refl wr).alloc _).trans (Ext.undrew hY)))
      have hx2 := hx1.trans hX7
      obtain ⟨d0, d1, _⟩ := (bD.ext hx2).box2
      obtain ⟨s, hs⟩ : ∃ s, anyB F n lo = s := ⟨_, rfl⟩
      obtain ⟨t, ht⟩ : ∃ s, anyB F n hi = s := ⟨_, rfl⟩
      have HS := Lib.hid hs
      have HU := Lib.hid ht
      rw [hs, ht]
      clear hs ht p0 p1 q0 q1 u0 u1
      cases s <;> cases t
      · go_wp2_with fail
        exact ⟨⟨n + 1, by simp, by rw [anyB_f HS.out], by rw [anyB_f HU.out], by omega, hx2⟩, by simp [intOf]; omega⟩
      · go_wp2_with fail
        exact ⟨⟨n + 1, by simp, by rw [anyB_f HS.out], by rw [anyB_t HU.out], by omega, hx2⟩, by simp [intOf]; omega⟩
      · go_wp2_with fail
        exact ⟨⟨n + 1, by simp, by rw [anyB_t HS.out], by rw [anyB_f HU.out], by omega, hx2⟩, by simp [intOf]; omega⟩
      · go_wp2_with fail
        exact ⟨⟨n + 1, by simp, by rw [anyB_t HS.out], by rw [anyB_t HU.out], by omega, hx2⟩, by simp [intOf]; omega⟩
    · obtain rfl : n = 64 := by omega
      rw [HA.out, HB.out]
      go_wp2_with fail
      go_ret
      exact ⟨rfl, hW.trans hx1⟩
end Go.Proofs.Ytdbhbfmbpldmnaa
