/- symMergeCmpFunc at packs, one behind. -/
import Derived.Test.YtbknkahakmfhkaaLenZ
namespace Go.Proofs.Ytbknkahakmfhkaa
open Go.Shelf Go.RowKit Go.Lib Go.Sort
set_option linter.unusedVariables false
set_option linter.unusedSimpArgs false

set_option maxHeartbeats 8000000 in
set_option maxRecDepth 1000000 in
theorem sym_last_any (blk cap a m b n : Nat) (d0 : Array Pk) (w0 W : World) (X u Y : List Pk) (y : Pk) (R : RowPk w0 blk d0) (h0 : d0.size = n) (S : SWL w0 blk (X ++ u ++ [y] ++ Y) W) (hn : (X ++ u ++ [y] ++ Y).length = n) (ha : a = X.length) (hm : m = a + u.length) (hb : b = m + 1) (hu2 : 2 ≤ u.length) (hu : u.Pairwise (fun p q => leP p q = true)) (hsz : n < 1000000) :
    Calls Try.prog 123 #[.slice (some ⟨blk, 0, none⟩) n cap, .int .i64 a, .int .i64 m, .int .i64 b, .func (.func 75) #[] #[]] W fun e w' => e = .returned (.tuple #[]) ∧ SWL w0 blk (X ++ u.merge [y] leP ++ Y) w' := by
  have HR : Hid (RowPk w0 blk d0 ∧ d0.size = n) := Lib.hid ⟨R, h0⟩
  have HS : Hid (SWL w0 blk (X ++ u ++ [y] ++ Y) W) := Lib.hid S
  have HN : Hid ((X ++ u ++ [y] ++ Y).length = n ∧ a = X.length ∧ m = a + u.length ∧ b = m + 1) := Lib.hid ⟨hn, ha, hm, hb⟩
  have HU := Lib.hid hu
  have hl : (X ++ u ++ [y] ++ Y).length = X.length + u.length + 1 + Y.length := by simp only [List.length_append, List.length_singleton]
  have hmb : a + 2 ≤ m ∧ m < n := by omega
  have g1 : ((m : Int) - (a : Int) == 1) = false := by simp; omega
  have g1' : ¬ (m : Int) - (a : Int) = 1 := by omega
  have g2 : (b : Int) - (m : Int) = 1 := by omega
  clear R h0 S hn ha hm hb hu hl hu2
  have mixed : Try.prog.follows .mixedOrders = true := by kernel_rfl
  have eg := entersO
  go_enter Try.func123, Try.ntmps123
  go_wp2
  go_loopw [14, 15] (fun x14 x15 wr => ∃ i j : Nat, a ≤ i ∧ i ≤ j ∧ j ≤ m ∧ x14 = .int .i64 i ∧ x15 = .int .i64 j ∧ Hid (∀ t p, u[t]? = some p → (a + t < i → p.often ≤ y.often) ∧ (j ≤ a + t → y.often < p.often)) ∧ Hid (SWL w0 blk (X ++ u ++ [y] ++ Y) wr)) (fun x14 x15 _ => (intOf x15).toNat - (intOf x14).toNat)
  case atStart => exact ⟨a, m, Nat.le_refl _, by omega, Nat.le_refl _, rfl, rfl, Lib.hid (fun t p hp => ⟨fun h => by omega, fun h => by have := (List.getElem?_eq_some_iff.1 hp).1; have := HN.out.2.2.1; omega⟩), HS⟩
  case round =>
    clear HS
    obtain ⟨i, j, hmi, hij, hjb, rfl, rfl, HB, HS⟩ := hrel
    by_cases hlt : i < j
    · obtain ⟨h, gh⟩ : ∃ h : Nat, ((i : Int) + (j : Int)) / 2 = (h : Int) := ⟨((i + j) / 2 : Nat), by omega⟩
      have hih : i ≤ h ∧ h < j := by omega
      have hhn : (h : Int) < (n : Int) := by omega
      have han : (m : Int) < (n : Int) := by omega
      obtain ⟨p, hp⟩ : ∃ p, u[h - a]? = some p := ⟨u[h - a]'(by have := HN.out.2.2.1; omega), List.getElem?_eq_getElem _⟩
      have hLh : (X ++ u ++ [y] ++ Y)[h]? = some p := by
        have h1 := HN.out.2.1; have h2 := HN.out.2.2.1
        have h3 := (List.getElem?_eq_some_iff.1 hp).1
        rw [List.append_assoc, List.append_assoc, List.getElem?_append_right (by omega), List.getElem?_append_left (by omega), ← h1]
        exact hp
      have hLa : (X ++ u ++ [y] ++ Y)[m]? = some y := by
        have h1 := HN.out.2.1; have h2 := HN.out.2.2.1
        rw [List.append_assoc, List.getElem?_append_right (by rw [List.length_append]; omega), show m - (X ++ u).length = 0 by rw [List.length_append]; omega]; rfl
      obtain ⟨hbk, c1, c2, -, -⟩ := swl_get HR.out.1 HR.out.2 HN.out.1 HS.out h p hLh
      obtain ⟨-, c3, c4, -, -⟩ := swl_get HR.out.1 HR.out.2 HN.out.1 HS.out m y hLa
      have k1 := cell_grown (w := wr) hbk c1
      have k2 := cell_grown (w := wr) (a := ⟨blk, h * 2 + 1, none⟩) hbk c2
      have k3 := cell_grown (w := wr) (a := ⟨blk, m * 2, none⟩) hbk c3
      have k4 := cell_grown (w := wr) (a := ⟨blk, m * 2 + 1, none⟩) hbk c4
      have hc := order_grown y p wr
      have hsg := sgn_lt y.often p.often
      generalize sgnI y.often p.often = sg at hc hsg
      have HP := Lib.hid hp
      have HX : Hid (∀ t q, u[t]? = some q → (t ≤ h - a → p.often ≤ y.often → q.often ≤ y.often) ∧ (h - a ≤ t → y.often < p.often → y.often < q.often)) := Lib.hid (fun t q hq => by
        have hmono : ∀ (s v : Nat) (e f : Pk), s < v → u[s]? = some e → u[v]? = some f → e.often ≤ f.often := fun s v e f hsv he hf => by
          obtain ⟨h1, e1⟩ := List.getElem?_eq_some_iff.1 he
          obtain ⟨h2, e2⟩ := List.getElem?_eq_some_iff.1 hf
          have := (List.pairwise_iff_getElem.1 HU.out) s v h1 h2 hsv
          rw [e1, e2] at this
          simpa [leA] using this
        refine ⟨fun h1 h2 => ?_, fun h1 h2 => ?_⟩
        · by_cases he : t = h - a
          · subst he; rw [HP.out] at hq; have : p = q := by simpa using hq
            rw [← this]; exact h2
          · have := hmono t (h - a) q p (by omega) hq HP.out; omega
        · by_cases he : t = h - a
          · subst he; rw [HP.out] at hq; have : p = q := by simpa using hq
            rw [← this]; exact h2
          · have := hmono (h - a) t p q (by omega) HP.out hq; omega)
      clear hp hLh hLa c1 c2 c3 c4 hbk
      by_cases hcm : y.often < p.often
      · have hd : sg < 0 := hsg.2 hcm
        have hd2 : decide (sg < 0) = true := decide_eq_true hd
        have HC := Lib.hid hcm
        clear hsg hcm
        go_wp2_with fail
        go_quiet_grown (first | (go_at_fn 75; refine Calls.grown_of (hc _ _)))
        have S2 : Hid (SWL w0 blk (X ++ u ++ [y] ++ Y) (grow (wr.drewN nq) osq)) := Lib.hid (swl_grown HS.out nq osq)
        clear k1 k2 k3 k4 hc HS
        generalize grow (wr.drewN nq) osq = w2 at S2 ⊢
        go_wp2
        go_roundw
        case rel => exact ⟨i, h, hmi, by omega, by omega, rfl, rfl, Lib.hid (fun t q hq => ⟨fun h1 => (HB.out t q hq).1 h1, fun h1 => (HX.out t q hq).2 (by omega) HC.out⟩), S2⟩
        case measure => simp [intOf] <;> omega
      · have hd : ¬ sg < 0 := fun hh => hcm (hsg.1 hh)
        have hd2 : decide (sg < 0) = false := decide_eq_false hd
        have hd3 : 0 ≤ sg := by omega
        have HC := Lib.hid (Int.not_lt.1 hcm)
        clear hsg hcm
        go_wp2_with fail
        go_quiet_grown (first | (go_at_fn 75; refine Calls.grown_of (hc _ _)))
        have S2 : Hid (SWL w0 blk (X ++ u ++ [y] ++ Y) (grow (wr.drewN nq) osq)) := Lib.hid (swl_grown HS.out nq osq)
        clear k1 k2 k3 k4 hc HS
        generalize grow (wr.drewN nq) osq = w2 at S2 ⊢
        go_wp2
        go_roundw
        case rel => exact ⟨h + 1, j, by omega, by omega, hjb, by go_num, rfl, Lib.hid (fun t q hq => ⟨fun h1 => (HX.out t q hq).1 (by omega) HC.out, fun h1 => (HB.out t q hq).2 h1⟩), S2⟩
        case measure => simp [intOf] <;> omega
    · have hij' : i = j := by omega
      subst hij'
      obtain ⟨c, hc⟩ : ∃ c, Hid (i = a + c) := ⟨i - a, Lib.hid (by omega)⟩
      have hcu : c ≤ u.length := by have := HN.out.2.2.1; have := hc.out; omega
      obtain ⟨r, hr⟩ : ∃ r, Hid (m = i + r) := ⟨m - i, Lib.hid (by omega)⟩
      obtain ⟨u1, u2, hu12⟩ : ∃ u1 u2, Hid (u1 = u.take c ∧ u2 = u.drop c) := ⟨_, _, Lib.hid ⟨rfl, rfl⟩⟩
      have HV1 : Hid (u1.length = c ∧ u2.length = r ∧ u = u1 ++ u2 ∧ u.merge [y] leP = u1 ++ y :: u2) := Lib.hid (by
        obtain ⟨rfl, rfl⟩ := hu12.out
        refine ⟨by rw [List.length_take]; omega, by rw [List.length_drop]; have := HN.out.2.2.1; have := hc.out; have := hr.out; omega, (List.take_append_drop c u).symm, ?_⟩
        have h1 := merge_split leP (u.take c) (u.drop c) [] [y] (fun z hz q hq => by
          rw [List.mem_singleton.1 hq]
          obtain ⟨t, ht, hty⟩ := List.getElem_of_mem hz
          rw [List.length_take] at ht
          rw [List.getElem_take] at hty
          have h2 := (HB.out t z (by rw [← hty]; exact List.getElem?_eq_getElem _)).1 (by have := hc.out; omega)
          exact decide_eq_true h2) (fun _ h => by cases h)
        rw [List.nil_append, List.take_append_drop, List.merge_right] at h1
        rw [h1]
        congr 1
        have h3 := merge_split leP [] (u.drop c) [y] [] (fun _ h => by cases h) (fun q hq z hz => by
          rw [List.mem_singleton.1 hq]
          obtain ⟨t, ht, hty⟩ := List.getElem_of_mem hz
          rw [List.getElem_drop] at hty
          rw [List.length_drop] at ht
          have h2 := (HB.out (c + t) z (by rw [← hty]; exact List.getElem?_eq_getElem _)).2 (by have := hc.out; omega)
          exact decide_eq_false (by show ¬ z.often ≤ y.often; omega))
        rw [List.append_nil, List.nil_append, List.nil_merge, List.merge_right] at h3
        rw [h3]; rfl)
      have S0 : Hid (SWL w0 blk (X ++ u1 ++ (u2.take (r - 0) ++ y :: u2.drop (r - 0)) ++ Y) wr) := Lib.hid (by
        have h1 := HS.out
        rw [HV1.out.2.2.1] at h1
        rw [List.take_of_length_le (by rw [HV1.out.2.1]; omega), List.drop_of_length_le (by rw [HV1.out.2.1]; omega)]
        simpa only [List.append_assoc, List.cons_append, List.nil_append] using h1)
      have HLN : Hid (X.length + c + r + 1 + Y.length = n) := Lib.hid (by
        have h1 := HN.out.1
        rw [HV1.out.2.2.1] at h1
        simp only [List.length_append, List.length_singleton] at h1
        have := HV1.out.1; have := HV1.out.2.1
        omega)
      have hir : i + r < n := by have := hr.out; omega
      have gmr : (m : Int) = (i : Int) + (r : Int) := by have := hr.out; omega
      have GMR := Lib.hid gmr
      clear gmr HS HB hu12 hcu
      go_wp2_with fail
      go_loopw [17] (fun x17 wq => ∃ t K : Nat, t ≤ r ∧ Hid (K + t = i + r) ∧ x17 = .int .i64 (K : Int) ∧ Hid (SWL w0 blk (X ++ u1 ++ (u2.take (r - t) ++ y :: u2.drop (r - t)) ++ Y) wq)) (fun x17 _ => (intOf x17).toNat)
      case atStart => exact ⟨0, m, Nat.zero_le _, Lib.hid (by have := hr.out; omega), rfl, S0⟩
      case round =>
        clear S0
        obtain ⟨t, K, ht, hK, rfl, HS⟩ := hrel
        by_cases htc : t < r
        · obtain ⟨s, hs⟩ : ∃ s, Hid (r - t = s + 1) := ⟨r - t - 1, Lib.hid (by omega)⟩
          obtain ⟨x, hx⟩ : ∃ x, u2[s]? = some x := ⟨u2[s]'(by have := HV1.out.2.1; have := hs.out; omega), List.getElem?_eq_getElem _⟩
          have hd1 : u2.drop s = x :: u2.drop (s + 1) := by
            obtain ⟨h1, e1⟩ := List.getElem?_eq_some_iff.1 hx
            rw [List.drop_eq_getElem_cons h1, e1]
          have ht1 : u2.take (s + 1) = u2.take s ++ [x] := by
            obtain ⟨h1, e1⟩ := List.getElem?_eq_some_iff.1 hx
            rw [List.take_succ_eq_append_getElem h1, e1]
          obtain ⟨P, hP⟩ : ∃ P : Nat, P + 1 = K := ⟨K - 1, by have := hK.out; omega⟩
          have hPl : P = (X ++ u1 ++ u2.take s).length := by
            rw [List.length_append, List.length_append, List.length_take]
            have := HV1.out.1; have := HV1.out.2.1; have := HN.out.2.1; have := hc.out; have := hK.out; have := hs.out; omega
          have hL : X ++ u1 ++ (u2.take (r - t) ++ y :: u2.drop (r - t)) ++ Y = (X ++ u1 ++ u2.take s) ++ x :: [] ++ y :: (u2.drop (s + 1) ++ Y) := by
            rw [hs.out, ht1]; simp only [List.append_assoc, List.cons_append, List.nil_append]
          have hlen : ((X ++ u1 ++ u2.take s) ++ x :: [] ++ y :: (u2.drop (s + 1) ++ Y)).length = n := by
            rw [← hL]
            simp only [List.length_append, List.length_cons, List.length_take, List.length_drop]
            have := HLN.out; have := HV1.out.1; have := HV1.out.2.1; omega
          have hSW := HS.out
          rw [hL] at hSW
          have hg1 := swl_get HR.out.1 HR.out.2 hlen hSW P x (by rw [List.append_assoc, hPl, List.getElem?_append_right (Nat.le_refl _), Nat.sub_self]; rfl)
          have hg2 := swl_get HR.out.1 HR.out.2 hlen hSW (P + 1) y (by rw [hPl]; exact get_two _ _ _ _)
          have hsw := (swl_swap HR.out.1 HR.out.2 hlen hSW (p := P) (q := P + 1) hPl (by rw [hPl]; rfl)).2
          have S2 : Hid (SWL w0 blk (X ++ u1 ++ (u2.take (r - (t + 1)) ++ y :: u2.drop (r - (t + 1))) ++ Y) ((wr.drew.setCells blk ((P + 1) * 2) (pkE x)).setCells blk (P * 2) (pkE y))) := Lib.hid (by
            rw [show r - (t + 1) = s by have := hs.out; omega, hd1]
            simpa only [List.append_assoc, List.cons_append, List.nil_append] using hsw)
          obtain ⟨-, c1, c2, f1, f2⟩ := hg1
          obtain ⟨-, c3, c4, f3, f4⟩ := hg2
          obtain ⟨o1, p1, k1, s1⟩ := x
          obtain ⟨o2, p2, k2, s2⟩ := y
          simp only at c1 c2 c3 c4
          subst hP
          have HK := Lib.hid hK.out
          have gP0 : ((P + 1 : Nat) : Int) = (P : Int) + 1 := rfl
          rw [gP0]
          have gP1 : ((P : Int) + 1).toNat = P + 1 := by omega
          have gP2 : (0 : Int) ≤ (P : Int) + 1 := by omega
          have gP3 : (P : Int) + 1 < (n : Int) := by have := HK.out; omega
          have gP4 : (P : Int) < (n : Int) := by omega
          have gP5 : IntKind.i64.wrap (P : Int) = (P : Int) := by rw [IntKind.wrap_i64]; omega
          have gP6 : (i : Int) < (P : Int) + 1 := by have := HK.out; omega
          have e1 : ¬ (P + 1) * 2 = P * 2 := by omega
          have e2 : ¬ (P + 1) * 2 = P * 2 + 1 := by omega
          have e3 : ¬ (P + 1) * 2 + 1 = P * 2 := by omega
          have e5 : ¬ P * 2 = (P + 1) * 2 := by omega
          have e6 : ¬ P * 2 + 1 = (P + 1) * 2 := by omega
          have e7 : ¬ P * 2 = (P + 1) * 2 + 1 := by omega
          clear hPl hL hlen hSW hsw hd1 ht1 hx HS gP0 hK
          go_wp2_with fail
          go_big_region_o
          all_goals go_wp2
          go_roundw
          case rel => exact ⟨t + 1, P, by omega, Lib.hid (by have := HK.out; omega), rfl, S2⟩
          case measure => simp [intOf] <;> omega
        · have htc' : t = r := by omega
          subst htc'
          have HF : Hid (SWL w0 blk (X ++ (u.merge [y] leP ++ Y)) wr) := Lib.hid (by
            have h1 := HS.out
            rw [Nat.sub_self, List.take_zero, List.drop_zero] at h1
            rw [HV1.out.2.2.2]
            simpa only [List.append_assoc, List.cons_append, List.nil_append] using h1)
          have g9 : ¬ (i : Int) < (K : Int) := by have := hK.out; omega
          clear HS
          go_wp2
          refine bodyPost_ret (results_none rfl _ _ _) rfl ?_
          exact ⟨rfl, HF.out⟩
end Go.Proofs.Ytbknkahakmfhkaa
