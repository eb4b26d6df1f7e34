/- utf.Decode; the document's Decode. -/
import Derived.Test.YtbknkahakmfhkaaDoorUtfD
import Derived.Test.YtbknkahakmfhkaaDoorUtfF
import Derived.Laws.Cover4
import Derived.Lib.RuneBytes
namespace Go.Proofs.YtbknkahakmfhkaaDoor
open Go.RowKit
set_option linter.unusedVariables false
set_option linter.unusedSimpArgs false

abbrev rE : Nat → Value := fun x => .int .i32 (x : Int)
theorem slI32 : SlT Tryd.prog 40 21 (.int .i32 0) 1 4 := ⟨Tryd.underlying40, by kernel_rfl, rfl⟩
theorem rOne (k : List Nat) : ∀ y ∈ k, (rE y).oneCell' = true := fun _ _ => rfl
/-- Runes' bytes, as a text. -/
def rbS (cs : List Nat) : ByteArray := runesBytes (cs.map fun c : Nat => (c : Int))
theorem rbS_snoc (cs : List Nat) (c : Nat) : rbS (cs ++ [c]) = rbS cs ++ Utf8.encode (c : Int) := by
  unfold rbS runesBytes; rw [List.map_append, List.foldl_append]; rfl
theorem rbS_size (cs : List Nat) : (rbS cs).size ≤ 4 * cs.length := by
  have := runesBytes_size_le (cs.map fun c : Nat => (c : Int))
  rwa [List.length_map] at this
theorem conv_runes {w : World} {a : Option Addr} {n : Nat} (c : Nat) {cs : List Nat} (hl : cs.length = n) (hr : Rd w rE a cs) : (convert 40 9 (.slice a n c)).run Tryd.prog w = .ok (.string (rbS cs)) w := by
  cases a with
  | none =>
    have h0 : cs = [] := by rcases hr with h | ⟨b, off, h, _⟩; exact h; cases h
    subst h0
    have := run_convert_runes_nil (P := Tryd.prog) w 40 9 21 n c Tryd.underlying40 Tryd.underlying21 Tryd.underlying9
    rw [this]; rfl
  | some ad =>
    rcases hr with h0 | ⟨b, off, h1, h2⟩
    · subst h0
      have hn : n = 0 := by simpa using hl.symm
      subst hn
      have := run_convert_runes (P := Tryd.prog) w 40 9 21 ad 0 c [] (Nat.le_refl _) Tryd.underlying40 Tryd.underlying21 Tryd.underlying9 (fun j hj => by simp at hj)
      rw [this]; rfl
    · simp only [Option.some.injEq] at h1
      subst h1
      have := run_convert_runes (P := Tryd.prog) w 40 9 21 ⟨b, off, none⟩ n c (cs.map fun c : Nat => (c : Int)) (by rw [List.length_map, hl]; exact Nat.le_refl _) Tryd.underlying40 Tryd.underlying21 Tryd.underlying9 (fun j hj => by
        rw [List.length_map] at hj
        rw [Addr.add_lit, h2 j cs[j] (List.getElem?_eq_getElem hj), List.getD_eq_getElem?_getD, List.getElem?_map, List.getElem?_eq_getElem hj]; rfl)
      rw [this, List.take_of_length_le (by rw [List.length_map, hl]; exact Nat.le_refl _)]; rfl
/-- Units in pairs: the runes. -/
def pairL : Nat → List Nat → Option (List Nat)
  | _, [] => some []
  | 0, _ :: _ => none
  | k + 1, u :: r => if u / 1024 = 55 then none else if u / 1024 = 54 then (match r with
      | [] => none
      | v :: r' => if v / 1024 = 55 then (pairL k r').map ((65536 + (u - 55296) * 1024 + (v - 56320)) :: ·) else none) else (pairL k r).map (u :: ·)
def pairU (us : List Nat) : Option (List Nat) := pairL us.length us
theorem pairL_fuel : ∀ (k j : Nat) (us : List Nat), us.length ≤ k → us.length ≤ j → pairL k us = pairL j us
  | k, j, [], _, _ => by cases k <;> cases j <;> rfl
  | 0, _, u :: r, h, _ => by simp at h
  | k + 1, 0, u :: r, _, h => by simp at h
  | k + 1, j + 1, u :: r, h1, h2 => by
    simp only [List.length_cons] at h1 h2
    unfold pairL
    rw [pairL_fuel k j r (by omega) (by omega)]
    cases r with
    | nil => rfl
    | cons v r' =>
      simp only [List.length_cons] at h1 h2
      simp only
      rw [pairL_fuel k j r' (by omega) (by omega)]
theorem pairU_one {u : Nat} {r : List Nat} (h1 : u / 1024 ≠ 55) (h2 : u / 1024 ≠ 54) : pairU (u :: r) = (pairU r).map (u :: ·) := by
  unfold pairU; rw [List.length_cons]
  conv => lhs; unfold pairL
  rw [if_neg h1, if_neg h2]
theorem pairU_low {u : Nat} {r : List Nat} (h1 : u / 1024 = 55) : pairU (u :: r) = none := by
  unfold pairU; rw [List.length_cons]; unfold pairL; rw [if_pos h1]
theorem pairU_end {u : Nat} (h1 : u / 1024 = 54) : pairU [u] = none := by
  show pairL 1 [u] = none
  unfold pairL; rw [if_neg (by omega), if_pos h1]
theorem pairU_bad {u v : Nat} {r : List Nat} (h1 : u / 1024 = 54) (h2 : v / 1024 ≠ 55) : pairU (u :: v :: r) = none := by
  unfold pairU; rw [List.length_cons]; unfold pairL; rw [if_neg (by omega), if_pos h1]; simp only; rw [if_neg h2]
theorem pairU_two {u v : Nat} {r : List Nat} (h1 : u / 1024 = 54) (h2 : v / 1024 = 55) : pairU (u :: v :: r) = (pairU r).map ((65536 + (u - 55296) * 1024 + (v - 56320)) :: ·) := by
  unfold pairU; rw [List.length_cons]
  conv => lhs; unfold pairL
  rw [if_neg (by omega), if_pos h1]
  simp only
  rw [if_pos h2, List.length_cons, pairL_fuel (r.length + 1) r.length r (by omega) (Nat.le_refl _)]
/-- What Decode answers. -/
def decOf (l : List UInt8) : Option ByteArray := (unitsOf l).bind fun us => (pairU us).map rbS
def DecPost (w : World) (l : List UInt8) (e : Ending) (w' : World) : Prop :=
  Below w.heap.size w w' ∧ e = .returned (match decOf l with | some s => .tuple #[.string s, .bool true] | none => .tuple #[.string ⟨#[]⟩, .bool false])
theorem decOf_none {l : List UInt8} (h : unitsOf l = none) : decOf l = none := by unfold decOf; rw [h]; rfl
theorem decOf_some {l : List UInt8} {us : List Nat} (h : unitsOf l = some us) : decOf l = (pairU us).map rbS := by unfold decOf; rw [h]; rfl
set_option maxRecDepth 100000 in
set_option maxHeartbeats 8000000 in
theorem decode_any (s : ByteArray) (l : List UInt8) (w : World) (hs : Hid (s = strOf l)) (hl : l.length ≤ 1000000) :
  Calls Tryd.prog 12 #[.string s] w (DecPost w l) := by
  have HL := Lib.hid hl
  go_enter Tryd.func12, Tryd.ntmps12
  go_wp2_with fail
  refine (units_any s l w hs hl).mono ?_
  rintro e w1 ⟨hB1, h⟩
  have HB1 := Lib.hid hB1
  clear hB1
  rcases h with ⟨hu, rfl⟩ | ⟨us, p, cc, hu, rfl, ho⟩
  · have HF : Hid (DecPost w l (.returned (.tuple #[.string ⟨#[]⟩, .bool false])) w1) := Lib.hid ⟨HB1.out, by rw [decOf_none hu]⟩
    clear hu
    go_wp2
    go_ret2
    exact HF.out
  · have HD := Lib.hid (decOf_some hu)
    have HU := Lib.hid (unitsOf_len hu)
    have HO := Lib.hid ho.rd
    obtain ⟨n, hn⟩ : ∃ n, n = us.length := ⟨_, rfl⟩
    have HN := Lib.hid hn
    rw [← hn]
    have hn1 : n ≤ 1000000 := by rw [hn]; have := HU.out.1; omega
    clear ho hu hn
    go_wp2
    go_loopw [6, 7] (fun x6 x7 wr => ∃ (i k : Nat) (q : Option Addr) (d : Nat) (pre : List Nat), i ≤ n ∧ k ≤ i ∧ x6 = .slice q k d ∧ x7 = .int .i64 i ∧ Hid (pairU us = (pairU (us.drop i)).map (pre ++ ·)) ∧ Own wr w1.heap.size 21 rE q k d pre ∧ Below w1.heap.size w1 wr) (fun _ x7 _ => n - (intOf x7).toNat)
    case atStart => exact ⟨0, 0, none, 0, [], Nat.zero_le _, Nat.le_refl _, rfl, rfl, Lib.hid (by cases h : pairU us <;> simp [h]), Own.nil, Below.refl _ _⟩
    case round =>
      obtain ⟨i, k, q, d, pre, hi, hk, rfl, rfl, hst, hO, hB⟩ := hrel
      by_cases hin : i < n
      · have hil : i < us.length := by rw [← HN.out]; exact hin
        obtain ⟨b, off, rfl, -, hc⟩ := (HO.out.below hB).at hil
        replace hc : wr.cell? ⟨b, off + i, none⟩ = some (.int .u16 ((us[i] : Nat) : Int)) := hc
        have hd : us.drop i = us[i] :: us.drop (i + 1) := List.drop_eq_getElem_cons hil
        have hux := HU.out.2 us[i] (List.getElem_mem hil)
        have HDR := Lib.hid hd
        have HW := Lib.hid (And.intro hO hB)
        have hbs := hB.size
        clear hd
        have hnone : Hid (pairU us = none → ∀ w', Below w1.heap.size w1 w' → DecPost w l (.returned (.tuple #[.string ⟨#[]⟩, .bool false])) w') := Lib.hid (fun h w' hb => ⟨HB1.out.trans (hb.mono HB1.out.size), by rw [HD.out, h]; rfl⟩)
        generalize us[i] = u at *
        by_cases h55 : u / 1024 = 55
        · have HX := Lib.hid (hnone.out (by rw [hst.out, HDR.out, pairU_low h55]; rfl) wr hB)
          have g1 : ((u : Int) / 1024 == 55) = true := by simp; omega
          clear h55 hO hB
          go_wp2
          go_ret2
          exact HX.out
        · have g1 : ((u : Int) / 1024 == 55) = false := by simp; omega
          by_cases h54 : u / 1024 = 54
          · have g2 : ((u : Int) / 1024 == 54) = true := by simp; omega
            by_cases hend : i + 1 = n
            · have HX := Lib.hid (hnone.out (by rw [hst.out, HDR.out, show us.drop (i + 1) = [] from List.drop_of_length_le (by rw [← HN.out]; omega), pairU_end h54]; rfl) wr hB)
              have g3 : ((i : Int) + 1 == (n : Int)) = true := by simp; omega
              clear h54 h55 hO hB
              go_wp2
              go_ret2
              exact HX.out
            · have hil2 : i + 1 < us.length := by rw [← HN.out]; omega
              obtain ⟨b', off', hb', -, hc2⟩ := (HO.out.below hB).at hil2
              simp only [Option.some.injEq, Addr.mk.injEq, and_true] at hb'
              obtain ⟨rfl, rfl⟩ := hb'
              replace hc2 : wr.cell? ⟨b, off + (i + 1), none⟩ = some (.int .u16 ((us[i + 1] : Nat) : Int)) := hc2
              have hd2 : us.drop (i + 1) = us[i + 1] :: us.drop (i + 2) := List.drop_eq_getElem_cons hil2
              have hvx := HU.out.2 us[i + 1] (List.getElem_mem hil2)
              have HDR2 := Lib.hid hd2
              have g3 : ((i : Int) + 1 == (n : Int)) = false := by simp; omega
              have g4 : ((i : Int) + 1).toNat = i + 1 := by omega
              clear hd2
              generalize us[i + 1] = v at *
              by_cases hv : v / 1024 = 55
              · have g5 : ((v : Int) / 1024 != 55) = false := by simp; omega
                obtain ⟨C, hC⟩ : ∃ C, C = 65536 + (u - 55296) * 1024 + (v - 56320) := ⟨_, rfl⟩
                have HP : Hid (pairU us = (pairU (us.drop (i + 2))).map (pre ++ [C] ++ ·)) := Lib.hid (by
                  rw [hst.out, HDR.out, HDR2.out, pairU_two h54 hv, ← hC]
                  cases pairU (us.drop (i + 2)) <;> simp)
                have e1 : (u : Int) - 55296 = ((u - 55296 : Nat) : Int) := by omega
                have e2 : (v : Int) - 56320 = ((v - 56320 : Nat) : Int) := by omega
                have e3 : 65536 + ((u : Int) - 55296) * 1024 + ((v : Int) - 56320) = (C : Int) := by omega
                have hCr : C < 1114112 := by omega
                have HE : Hid (Rd (wr.alloc (.cells #[.int .i32 (C : Int)] 21)) rE (some ⟨wr.heap.size, 0, none⟩) [C]) := Lib.hid (rd_new wr _ _ _ _ rfl)
                clear hO hB hC e1 e2
                go_wp2_with (at_builtin; refine wpList_cat slI32 rfl _ _ rfl rfl (HW.out.1.alloc (.cells #[.int .i32 (C : Int)] 21)) rfl rfl HE.out (rOne _) (by omega) (by unfold maxLen; omega) (by simp; omega) ?_; intro a6 c6 w6 hown6 hg6 _ _)
                have HF := Lib.hid (And.intro hown6 ((HW.out.1.alloc (.cells #[.int .i32 (C : Int)] 21)).step (HW.out.2.alloc hbs _) hg6 (by simp; omega)))
                clear hown6 hg6
                go_roundw
                case rel => exact ⟨i + 2, k + 1, a6, c6, pre ++ [C], by omega, by omega, rfl, by go_num, HP, HF.out⟩
                case measure => simp [intOf] <;> omega
              · have HX := Lib.hid (hnone.out (by rw [hst.out, HDR.out, HDR2.out, pairU_bad h54 hv]; rfl) wr hB)
                have g5 : ((v : Int) / 1024 != 55) = true := by simp; omega
                clear h54 h55 hv hO hB
                go_wp2
                go_ret2
                exact HX.out
          · have g2 : ((u : Int) / 1024 == 54) = false := by simp; omega
            have HP : Hid (pairU us = (pairU (us.drop (i + 1))).map (pre ++ [u] ++ ·)) := Lib.hid (by
              rw [hst.out, HDR.out, pairU_one h55 h54]
              cases pairU (us.drop (i + 1)) <;> simp)
            have g3 : IntKind.i32.wrap (u : Int) = (u : Int) := by rw [IntKind.wrap_i32]; omega
            have HE : Hid (Rd (wr.alloc (.cells #[.int .i32 (u : Int)] 21)) rE (some ⟨wr.heap.size, 0, none⟩) [u]) := Lib.hid (rd_new wr _ _ _ _ rfl)
            clear hO hB h54 h55
            go_wp2_with (at_builtin; refine wpList_cat slI32 rfl _ _ rfl rfl (HW.out.1.alloc (.cells #[.int .i32 (u : Int)] 21)) rfl rfl HE.out (rOne _) (by omega) (by unfold maxLen; omega) (by simp; omega) ?_; intro a6 c6 w6 hown6 hg6 _ _)
            have HF := Lib.hid (And.intro hown6 ((HW.out.1.alloc (.cells #[.int .i32 (u : Int)] 21)).step (HW.out.2.alloc hbs _) hg6 (by simp; omega)))
            clear hown6 hg6
            go_roundw
            case rel => exact ⟨i + 1, k + 1, a6, c6, pre ++ [u], by omega, by omega, rfl, by go_num, HP, HF.out⟩
            case measure => simp [intOf] <;> omega
      · have hin' : i = n := by omega
        have HP : Hid (pairU us = some pre) := Lib.hid (by rw [hst.out, hin', HN.out, List.drop_length]; simp [pairU, pairL])
        have HF : Hid (DecPost w l (.returned (.tuple #[.string (rbS pre), .bool true])) wr) := Lib.hid ⟨HB1.out.trans (hB.mono HB1.out.size), by rw [HD.out, HP.out]; rfl⟩
        have hcv := conv_runes d hO.len hO.rd
        subst hin'
        clear hO hB
        go_wp2
        go_ret2
        exact HF.out
end Go.Proofs.YtbknkahakmfhkaaDoor
