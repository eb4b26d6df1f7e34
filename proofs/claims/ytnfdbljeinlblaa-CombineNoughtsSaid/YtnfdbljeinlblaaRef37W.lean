/- The walks of packsaddleref37: Times, Power, Noughts. -/
import Derived.Test.YtnfdbljeinlblaaRef03W
namespace Go.Proofs.Ytnfdbljeinlblaa
open Go.RowKit
set_option linter.unusedVariables false
set_option linter.unusedSimpArgs false

theorem Rd.get {α : Type} {w : World} {E : α → Value} {a : Option Addr} {l : List α} (h : Rd w E a l) {k : Nat} (hk : k < l.length) : ∃ b off y, a = some ⟨b, off, none⟩ ∧ l[k]? = some y ∧ w.cell? ⟨b, off + k, none⟩ = some (E y) := by
  obtain ⟨b, off, h1, -, h2⟩ := h.at hk
  exact ⟨b, off, l[k], h1, by simp [hk], h2⟩

/-- Bit i of a times the row y, put upon l, bit by bit. -/
def mulRow (l : List Bool) (p : Bool) (y : List Bool) (i : Nat) : Nat → List Bool
  | 0 => l
  | k+1 => if p && y.getD k false then (mulRow l p y i k).set (i + k) (!((mulRow l p y i k).getD (i + k) false)) else mulRow l p y i k
def mulAll (x y : List Bool) : Nat → List Bool
  | 0 => List.replicate 63 false
  | i+1 => mulRow (mulAll x y i) (x.getD i false) y i 32
theorem mulRow_length (l : List Bool) (p : Bool) (y : List Bool) (i k : Nat) : (mulRow l p y i k).length = l.length := by
  induction k with
  | zero => rfl
  | succ k ih =>
    simp only [mulRow]; split
    · simp [ih]
    · exact ih
theorem mulAll_length (x y : List Bool) (i : Nat) : (mulAll x y i).length = 63 := by
  induction i with
  | zero => simp [mulAll]
  | succ i ih => rw [mulAll, mulRow_length, ih]
def refTimesN (a b : Nat) : Nat := numL ((divRun (mulAll (bitsL a 32) (bitsL b 32) 32) divL 31).drop 31)
theorem refTimesN_lt (a b : Nat) : refTimesN a b < 4294967296 := numL_lt _

set_option maxRecDepth 100000 in
set_option maxHeartbeats 4000000 in
theorem refTimes_any (a b : Nat) (w : World) (ha : a < 4294967296) (hb : b < 4294967296) :
  Calls Try.prog 29 #[.int .u32 (a : Int), .int .u32 (b : Int)] w fun e w' => e = .returned (.int .u32 (refTimesN a b : Nat)) ∧ Below w.heap.size w w' := by
  go_enter Try.func29, Try.ntmps29
  go_wp2_with fail
  refine (bits_any a 32 _ ha (by omega)).mono ?_
  rintro e w1 ⟨p1, c1, rfl, hown1, hB1⟩
  have hs1 := hB1.size
  go_wp2_with fail
  refine (bits_any b 32 _ hb (by omega)).mono ?_
  rintro e w2 ⟨p2, c2, rfl, hown2, hB2⟩
  have hx1 := hown1.below hB2
  have hy1 := hown2.mono hs1
  have hBB := below_trans0 hB1 hs1 hB2
  have hs2 := hBB.size
  clear hown1 hown2 hB1 hB2
  go_wp2_with (at_make; refine wpList_mk (E := Value.bool) slBool rfl rfl _ _ rfl 63 rfl rfl rfl rfl false rfl (by decide) (by decide) (Nat.le_refl _) ?_; intro p3 w3 hown3 hg3)
  obtain ⟨g, rfl, hgb, -, -, -⟩ := hown3.row (by omega)
  have hB3 := below_of_grownBy hg3
  have hX := Lib.hid hx1.rd
  have hY := Lib.hid hy1.rd
  clear hx1 hy1 hg3
  go_loopw [22] (fun i wr => ∃ k : Nat, k ≤ 32 ∧ i = .int .i64 k ∧ Own wr w2.heap.size 4 Value.bool (some ⟨g, 0, none⟩) 63 63 (mulAll (bitsL a 32) (bitsL b 32) k) ∧ Below w2.heap.size w2 wr) (fun i _ => 32 - (intOf i).toNat)
  case atStart => exact ⟨0, by omega, rfl, hown3, hB3⟩
  case round =>
    obtain ⟨k, hk, rfl, hown, hB⟩ := hrel
    clear hown3 hB3
    by_cases hlt : k < 32
    · obtain ⟨bx, ox, x, rfl, hgx0, hcx⟩ := (hX.out.later hB).get (k := k) (by rw [bitsL_length]; exact hlt)
      have hgx : (bitsL a 32).getD k false = x := getD_of_get? hgx0
      clear hgx0
      have hdk : decide ((k : Int) < 32) = true := by simp; omega
      have hstep : mulAll (bitsL a 32) (bitsL b 32) (k + 1) = mulRow (mulAll (bitsL a 32) (bitsL b 32) k) x (bitsL b 32) k 32 := by rw [mulAll, hgx]
      have HS := Lib.hid hstep
      clear hstep hgx
      generalize mulAll (bitsL a 32) (bitsL b 32) k = L at hown HS
      go_wp2
      go_loopw [29] (fun jj wt => ∃ j : Nat, j ≤ 32 ∧ jj = .int .i64 j ∧ Own wt w2.heap.size 4 Value.bool (some ⟨g, 0, none⟩) 63 63 (mulRow L x (bitsL b 32) k j) ∧ Below w2.heap.size w2 wt) (fun jj _ => 32 - (intOf jj).toNat)
      case atStart => exact ⟨0, by omega, rfl, hown, hB⟩
      case round =>
        obtain ⟨j, hj, rfl, hownj, hBj⟩ := hrel
        clear hown hB hcx
        by_cases hltj : j < 32
        · obtain ⟨by', oy, y, rfl, hgy0, hcy⟩ := (hY.out.later hBj).get (k := j) (by rw [bitsL_length]; exact hltj)
          have hgy : (bitsL b 32).getD j false = y := getD_of_get? hgy0
          clear hgy0
          obtain ⟨g2, old, hg2, -, -, hget, hx, hf⟩ := hownj.at (i := k + j) (by omega)
          obtain rfl : g = g2 := by simpa using hg2
          have hset := hownj.set (k + j) (by omega) (!old)
          have hBset := hBj.setCell (p := ⟨g, k + j, none⟩) hgb (.bool (!old))
          have hst : mulRow L x (bitsL b 32) k (j + 1) = if x && y then (mulRow L x (bitsL b 32) k j).set (k + j) (!old) else mulRow L x (bitsL b 32) k j := by
            rw [mulRow, hgy, getD_of_get? hget]
          have HST := Lib.hid hst
          clear hg2 hget hst hgy
          cases x <;> cases y
          case true.true =>
            go_wp2
            go_roundw
            case rel => exact ⟨j + 1, by omega, by go_num, by rw [HST.out]; exact hset, hBset⟩
            case measure => simp [intOf]; omega
          all_goals
            go_wp2
            go_roundw
            case rel => exact ⟨j + 1, by omega, by go_num, by rw [HST.out]; exact hownj, hBj⟩
            case measure => simp [intOf]; omega
        · have hj' : j = 32 := by omega
          subst hj'
          go_wp2
          go_roundw
          case rel => exact ⟨k + 1, by omega, by go_num, by rw [HS.out]; exact hownj, hBj⟩
          case measure => simp [intOf]; omega
    · have hk' : k = 32 := by omega
      subst hk'
      go_wp2_with fail
      refine (divisor_any _).mono ?_
      rintro e w4 ⟨a3, c3, rfl, hownD, hB4⟩
      have hown4 := hown.below hB4
      have hsz := hB.size
      have hB5 := below_trans0 hB hsz hB4
      obtain ⟨gd, rfl, hgdb, -, -, -⟩ := hownD.row (by omega)
      have hgne : g ≠ gd := by
        obtain ⟨gg, hgg, -, hlt2, -, -⟩ := hown.row (by omega)
        have : g = gg := by simpa using hgg
        omega
      have hownD2 := hownD.mono hsz
      have hgdb2 : w2.heap.size ≤ gd := by omega
      clear hown hB hB4 hownD
      generalize hL1 : mulAll (bitsL a 32) (bitsL b 32) 32 = L1 at hown4
      have hlen1 : ∀ k, (divRun L1 divL k).length = 63 := fun k => by rw [divRun_length, ← hL1, mulAll_length]
      have HN := Lib.hid hlen1
      have HL1 := Lib.hid hL1
      clear hlen1 hL1
      go_wp2
      go_loopw [13] (fun i ws => ∃ k : Nat, k ≤ 31 ∧ i = .int .i64 k ∧ Own ws w2.heap.size 4 Value.bool (some ⟨g, 0, none⟩) 63 63 (divRun L1 divL k) ∧ Own ws w2.heap.size 4 Value.bool (some ⟨gd, 0, none⟩) 33 c3 divL ∧ Below w2.heap.size w2 ws) (fun i _ => 31 - (intOf i).toNat)
      case atStart => exact ⟨0, by omega, rfl, hown4, hownD2, hB5⟩
      case round =>
        obtain ⟨k, hk, rfl, hown, hD, hB⟩ := hrel
        clear hown4 hownD2 hB5
        by_cases hlt : k < 31
        · obtain ⟨g2, old, hg2, -, -, hget, hx, hf⟩ := hown.at (i := k) (by omega)
          obtain rfl : g = g2 := by simpa using hg2
          have HG := Lib.hid (getD_of_get? hget)
          clear hg2 hget
          cases old with
          | false =>
            have hsame : divRun L1 divL (k + 1) = divRun L1 divL k := by rw [divRun, if_neg (by rw [HG.out]; simp)]
            have HS := Lib.hid hsame
            clear hsame
            go_wp2
            go_roundw
            case rel => exact ⟨k + 1, by omega, by go_num, by rw [HS.out]; exact hown, hD, hB⟩
            case measure => simp [intOf]; omega
          | true =>
            have hstep : divRun L1 divL (k + 1) = xorUp (divRun L1 divL k) divL k 33 := by rw [divRun, if_pos HG.out, divL_length]
            have HS := Lib.hid hstep
            clear hstep HG
            have hd : decide ((k : Int) + 32 < 63) = true := by simp; omega
            go_wp2
            go_loopw [67] (fun jj wt => ∃ j : Nat, j ≤ 33 ∧ jj = .int .i64 j ∧ Own wt w2.heap.size 4 Value.bool (some ⟨g, 0, none⟩) 63 63 (xorUp (divRun L1 divL k) divL k j) ∧ Own wt w2.heap.size 4 Value.bool (some ⟨gd, 0, none⟩) 33 c3 divL ∧ Below w2.heap.size w2 wt) (fun jj _ => 33 - (intOf jj).toNat)
            case atStart => exact ⟨0, by omega, rfl, hown, hD, hB⟩
            case round =>
              obtain ⟨j, hj, rfl, hownj, hDj, hBj⟩ := hrel
              clear hown hD hB hx hf
              by_cases hltj : j < 33
              · obtain ⟨g2, old, hg2, -, -, hget, hx, hf⟩ := hownj.at (i := k + j) (by omega)
                obtain rfl : g = g2 := by simpa using hg2
                obtain ⟨g3, dv, hg3, -, -, hgetd, hxd, -⟩ := hDj.at (i := j) hltj
                obtain rfl : gd = g3 := by simpa using hg3
                have hset := hownj.set (k + j) (by omega) (old != dv)
                have hx1 : xorUp (divRun L1 divL k) divL k (j + 1) = (xorUp (divRun L1 divL k) divL k j).set (k + j) (old != dv) := by
                  rw [xorUp, getD_of_get? hget, getD_of_get? hgetd]
                have HX := Lib.hid hx1
                have hDset := hDj.setCell_ne (p := ⟨g, k + j, none⟩) (by intro q hq; simp at hq; show q ≠ g; omega) (.bool (old != dv))
                have hBset := hBj.setCell (p := ⟨g, k + j, none⟩) hgb (.bool (old != dv))
                clear hg2 hg3 hget hgetd hx1 hownj hDj hBj
                go_wp2
                have s1 : IntKind.i64.wrap ((k : Int) + (j : Int)) = (k : Int) + (j : Int) := IntWalk.i64_in _ (by omega)
                have s2 : 0 ≤ (k : Int) + (j : Int) := by omega
                have s3 : ((k : Int) + (j : Int)).toNat = k + j := by omega
                have s4 : (k : Int) + (j : Int) < 63 := by omega
                have s5 : (j : Int) < 33 := by omega
                go_still_tail 16, (by kernel_rfl)
                clear s1 s2 s3 s4 s5
                show wpList _ _ _ _ _ wr.drew
                go_wp2
                go_roundw
                case rel => exact ⟨j + 1, by omega, by go_num, by rw [HX.out]; exact hset.drew, hDset.drew, hBset.drew⟩
                case measure => simp [intOf]; omega
              · have hj' : j = 33 := by omega
                subst hj'
                go_wp2
                go_roundw
                case rel => exact ⟨k + 1, by omega, by go_num, by rw [HS.out]; exact hownj, hDj, hBj⟩
                case measure => simp [intOf]; omega
        · have hk' : k = 31 := by omega
          subst hk'
          have hrd0 : Rd wr Value.bool (some ⟨g, 31, none⟩) ((divRun L1 divL 31).drop 31) := by
            have := hown.rd.drop 31
            rw [Nat.zero_add] at this
            exact this
          have hlenR : ((divRun L1 divL 31).drop 31).length = 32 := by rw [List.length_drop, HN.out]
          have HLR := Lib.hid hlenR
          have HRD := Lib.hid hrd0
          clear hlenR hrd0
          go_wp2_with fail
          refine (number_any _ _ _ ((divRun L1 divL 31).drop 31) _ HLR.out (by omega) HRD.out).mono ?_
          rintro e w6 ⟨rfl, rfl⟩
          go_wp2
          go_ret
          exact ⟨ret_int (by unfold refTimesN; rw [HL1.out]), below_trans0 hBB hs2 hB⟩
end Go.Proofs.Ytnfdbljeinlblaa
