/- The document's Decode. -/
import Derived.Test.YtbknkahakmfhkaaDoorUtfG
namespace Go.Proofs.YtbknkahakmfhkaaDoor
open Go.RowKit
set_option linter.unusedVariables false
set_option linter.unusedSimpArgs false

theorem rbS_nil : rbS [] = ⟨#[]⟩ := rfl
theorem enc_le (c : Int) : (Utf8.encode c).size ≤ 4 := encode_size_le c
set_option maxRecDepth 100000 in
set_option maxHeartbeats 8000000 in
theorem rdecode_any (s : ByteArray) (l : List UInt8) (w : World) (hs : Hid (s = strOf l)) (hl : l.length ≤ 1000000) :
  Calls Tryd.prog 13 #[.string s] w (DecPost w l) := by
  have HL := Lib.hid hl
  go_enter Tryd.func13, Tryd.ntmps13
  go_wp2_with fail
  refine (runits_any s l w hs hl).mono ?_
  rintro e w1 ⟨hB1, h⟩
  have HB1 := Lib.hid hB1
  clear hB1
  rcases h with ⟨hu, rfl⟩ | ⟨us, p, cc, hu, rfl, ho⟩
  · have HF : Hid (DecPost w l (.returned (.tuple #[.string ⟨#[]⟩, .bool false])) w1) := Lib.hid ⟨HB1.out, by rw [decOf_none hu]⟩
    clear hu
    go_wp2
    go_ret2
    exact HF.out
  · have HD := Lib.hid (decOf_some hu)
    have HU := Lib.hid (unitsOf_len hu)
    have HO := Lib.hid ho.rd
    obtain ⟨n, hn⟩ : ∃ n, n = us.length := ⟨_, rfl⟩
    have HN := Lib.hid hn
    rw [← hn]
    have hn1 : n ≤ 1000000 := by rw [hn]; have := HU.out.1; omega
    clear ho hu hn
    go_wp2
    go_loopw [6, 7] (fun x6 x7 wr => ∃ (i : Nat) (t : ByteArray) (pre : List Nat), i ≤ n ∧ x6 = .string t ∧ x7 = .int .i64 i ∧ Hid (t = rbS pre) ∧ t.size ≤ 4 * i ∧ Hid (pairU us = (pairU (us.drop i)).map (pre ++ ·)) ∧ Below w1.heap.size w1 wr) (fun _ x7 _ => n - (intOf x7).toNat)
    case atStart => exact ⟨0, ⟨#[]⟩, [], Nat.zero_le _, rfl, rfl, Lib.hid rfl, Nat.le_refl _, Lib.hid (by cases h : pairU us <;> simp [h]), Below.refl _ _⟩
    case round =>
      obtain ⟨i, t, pre, hi, rfl, rfl, ht, htl, hst, hB⟩ := hrel
      by_cases hin : i < n
      · have hil : i < us.length := by rw [← HN.out]; exact hin
        obtain ⟨b, off, rfl, -, hc⟩ := (HO.out.below hB).at hil
        replace hc : wr.cell? ⟨b, off + i, none⟩ = some (.int .u16 ((us[i] : Nat) : Int)) := hc
        have hd : us.drop i = us[i] :: us.drop (i + 1) := List.drop_eq_getElem_cons hil
        have hux := HU.out.2 us[i] (List.getElem_mem hil)
        have HDR := Lib.hid hd
        have HB := Lib.hid hB
        clear hd
        have hnone : Hid (pairU us = none → DecPost w l (.returned (.tuple #[.string ⟨#[]⟩, .bool false])) wr) := Lib.hid (fun h => ⟨HB1.out.trans (HB.out.mono HB1.out.size), by rw [HD.out, h]; rfl⟩)
        clear hB
        generalize us[i] = u at *
        by_cases h55 : u / 1024 = 55
        · have HX := Lib.hid (hnone.out (by rw [hst.out, HDR.out, pairU_low h55]; rfl))
          have g1 : (55296 : Int) ≤ (u : Int) := by omega
          have g2 : (u : Int) < 57344 := by omega
          have g3 : (56320 : Int) ≤ (u : Int) := by omega
          clear h55
          go_wp2
          go_ret2
          exact HX.out
        · by_cases h54 : u / 1024 = 54
          · have g1 : (55296 : Int) ≤ (u : Int) := by omega
            have g2 : (u : Int) < 57344 := by omega
            have g3 : ¬ (56320 : Int) ≤ (u : Int) := by omega
            by_cases hend : i + 1 = n
            · have HX := Lib.hid (hnone.out (by rw [hst.out, HDR.out, show us.drop (i + 1) = [] from List.drop_of_length_le (by rw [← HN.out]; omega), pairU_end h54]; rfl))
              have g4 : ((i : Int) + 1 == (n : Int)) = true := by simp; omega
              clear h54 h55
              go_wp2
              go_ret2
              exact HX.out
            · have hil2 : i + 1 < us.length := by rw [← HN.out]; omega
              obtain ⟨b', off', hb', -, hc2⟩ := (HO.out.below HB.out).at hil2
              simp only [Option.some.injEq, Addr.mk.injEq, and_true] at hb'
              obtain ⟨rfl, rfl⟩ := hb'
              replace hc2 : wr.cell? ⟨b, off + (i + 1), none⟩ = some (.int .u16 ((us[i + 1] : Nat) : Int)) := hc2
              have hd2 : us.drop (i + 1) = us[i + 1] :: us.drop (i + 2) := List.drop_eq_getElem_cons hil2
              have hvx := HU.out.2 us[i + 1] (List.getElem_mem hil2)
              have HDR2 := Lib.hid hd2
              have g4 : ((i : Int) + 1 == (n : Int)) = false := by simp; omega
              have g5 : ((i : Int) + 1).toNat = i + 1 := by omega
              clear hd2
              generalize us[i + 1] = v at *
              by_cases hv : v / 1024 = 55
              · have g6 : ¬ (v : Int) < 56320 := by omega
                have g7 : ¬ (57344 : Int) ≤ (v : Int) := by omega
                obtain ⟨C, hC⟩ : ∃ C, C = 65536 + (u - 55296) * 1024 + (v - 56320) := ⟨_, rfl⟩
                have HP : Hid (pairU us = (pairU (us.drop (i + 2))).map (pre ++ [C] ++ ·)) := Lib.hid (by
                  rw [hst.out, HDR.out, HDR2.out, pairU_two h54 hv, ← hC]
                  cases pairU (us.drop (i + 2)) <;> simp)
                obtain ⟨A, hA⟩ : ∃ A, A = u - 55296 := ⟨_, rfl⟩
                obtain ⟨M, hM⟩ : ∃ M, M = A * 1024 := ⟨_, rfl⟩
                obtain ⟨S, hS⟩ : ∃ S, S = 65536 + M := ⟨_, rfl⟩
                obtain ⟨D, hD⟩ : ∃ D, D = S + v := ⟨_, rfl⟩
                have e1 : (u : Int) - 55296 = (A : Int) := by omega
                have e4 : (A : Int) * 1024 = (M : Int) := by omega
                have e2 : 65536 + (M : Int) = (S : Int) := by omega
                have e3 : (S : Int) + (v : Int) = (D : Int) := by omega
                have e5 : (D : Int) - 56320 = (C : Int) := by omega
                have hAr : A < 1024 := by omega
                have hMr : M < 1048576 := by omega
                have hSr : S < 1114112 := by omega
                have hDr : D < 1300000 := by omega
                have hCr : C < 1114112 := by omega
                have g8 : IntKind.i32.wrap (C : Int) = (C : Int) := by rw [IntKind.wrap_i32]; omega
                have hEL := enc_le (C : Int)
                obtain ⟨q, hq⟩ : ∃ q, q = Utf8.encode (C : Int) := ⟨_, rfl⟩
                have HQ : Hid (t ++ q = rbS (pre ++ [C])) := Lib.hid (by rw [rbS_snoc, ht.out, hq])
                rw [← hq] at hEL
                clear hC hA hM hS hD
                replace hq := hq.symm
                go_wp2
                go_roundw
                case rel => exact ⟨i + 2, t ++ q, pre ++ [C], by omega, rfl, by go_num, HQ, by rw [ByteArray.size_append]; omega, HP, HB.out⟩
                case measure => simp [intOf] <;> omega
              · have HX := Lib.hid (hnone.out (by rw [hst.out, HDR.out, HDR2.out, pairU_bad h54 hv]; rfl))
                by_cases hv2 : v < 56320
                · have g6 : (v : Int) < 56320 := by omega
                  clear h54 h55 hv
                  go_wp2
                  go_ret2
                  exact HX.out
                · have g6 : ¬ (v : Int) < 56320 := by omega
                  have g7 : (57344 : Int) ≤ (v : Int) := by omega
                  clear h54 h55 hv
                  go_wp2
                  go_ret2
                  exact HX.out
          · have HP : Hid (pairU us = (pairU (us.drop (i + 1))).map (pre ++ [u] ++ ·)) := Lib.hid (by
              rw [hst.out, HDR.out, pairU_one h55 h54]
              cases pairU (us.drop (i + 1)) <;> simp)
            have g3 : IntKind.i32.wrap (u : Int) = (u : Int) := by rw [IntKind.wrap_i32]; omega
            have hEL := enc_le (u : Int)
            obtain ⟨q, hq⟩ : ∃ q, q = Utf8.encode (u : Int) := ⟨_, rfl⟩
            have HQ : Hid (t ++ q = rbS (pre ++ [u])) := Lib.hid (by rw [rbS_snoc, ht.out, hq])
            rw [← hq] at hEL
            replace hq := hq.symm
            have g0 : (u : Int) < 55296 ∨ 57344 ≤ (u : Int) := by omega
            clear h54 h55
            rcases g0 with g0 | g0
            · have g1 : ¬ (55296 : Int) ≤ (u : Int) := by omega
              go_wp2
              go_roundw
              case rel => exact ⟨i + 1, t ++ q, pre ++ [u], by omega, rfl, by go_num, HQ, by rw [ByteArray.size_append]; omega, HP, HB.out⟩
              case measure => simp [intOf] <;> omega
            · have g1 : (55296 : Int) ≤ (u : Int) := by omega
              have g2 : ¬ (u : Int) < 57344 := by omega
              go_wp2
              go_roundw
              case rel => exact ⟨i + 1, t ++ q, pre ++ [u], by omega, rfl, by go_num, HQ, by rw [ByteArray.size_append]; omega, HP, HB.out⟩
              case measure => simp [intOf] <;> omega
      · have hin' : i = n := by omega
        have HP : Hid (pairU us = some pre) := Lib.hid (by rw [hst.out, hin', HN.out, List.drop_length]; simp [pairU, pairL])
        have HF : Hid (DecPost w l (.returned (.tuple #[.string t, .bool true])) wr) := Lib.hid ⟨HB1.out.trans (hB.mono HB1.out.size), by rw [HD.out, HP.out, ht.out]; rfl⟩
        subst hin'
        clear hB
        go_wp2
        go_ret2
        exact HF.out
end Go.Proofs.YtbknkahakmfhkaaDoor
