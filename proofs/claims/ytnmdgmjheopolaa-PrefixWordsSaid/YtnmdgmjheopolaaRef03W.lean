/- The walks of packsaddleref03: Divisor, Sum. -/
import Derived.Test.YtnmdgmjheopolaaRef01W
import Derived.Test.YtnmdgmjheopolaaOwn2
import Derived.StillTailTactics
namespace Go.Proofs.Ytnmdgmjheopolaa
open Go.RowKit
set_option linter.unusedVariables false
set_option linter.unusedSimpArgs false

def divP : List Nat := [32, 26, 23, 22, 16, 12, 11, 10, 8, 7, 5, 4, 2, 1, 0]
def divK (k : Nat) : List Bool := (divP.take k).foldl (fun l p => l.set (32 - p) true) (List.replicate 33 false)
def divL : List Bool := divK 15
abbrev natV (n : Nat) : Value := .int .i64 (n : Int)
theorem divK_length (k : Nat) : (divK k).length = 33 := by
  have : ∀ (q : List Nat) (l : List Bool), (q.foldl (fun l p => l.set (32 - p) true) l).length = l.length := by
    intro q
    induction q with
    | nil => intro l; rfl
    | cons p q ih => intro l; simp only [List.foldl_cons]; rw [ih]; simp
  unfold divK; rw [this]; simp
theorem divK_succ (k : Nat) (h : k < divP.length) : divK (k + 1) = (divK k).set (32 - divP[k]) true := by
  unfold divK; rw [List.take_succ_eq_append_getElem h, List.foldl_append]; rfl
theorem divP_le : ∀ x ∈ divP, x ≤ 32 := by decide

set_option maxRecDepth 100000 in
set_option maxHeartbeats 1000000 in
theorem divisor_any (w : World) :
  Calls Try.prog 102 #[] w fun e w' => ∃ a c, e = .returned (.slice a 33 c) ∧ Own w' w.heap.size 4 Value.bool a 33 c divL ∧ Below w.heap.size w w' := by
  go_enter Try.func102, Try.ntmps102
  go_wp2_with (at_make; refine wpList_mk (E := Value.bool) slBool rfl rfl _ _ rfl 33 rfl rfl rfl rfl false rfl (by decide) (by decide) (Nat.le_refl _) ?_; intro p1 w1 hown1 hg1)
  have hB1 := below_of_grownBy hg1
  clear hg1
  obtain ⟨g1, rfl, hg1b, hg1l, -, -⟩ := hown1.row (by omega)
  have hrd : Blk (w1.alloc (.cells (divP.map natV).toArray 3)) w1.heap.size 3 (divP.map natV).toArray := Blk.new _ _ _
  have hown2 := hown1.alloc (.cells (divP.map natV).toArray 3)
  have hB2 := hB1.alloc hB1.size (.cells (divP.map natV).toArray 3)
  have hDR : Hid ((divP.map natV).toArray = #[.int .i64 32, .int .i64 26, .int .i64 23, .int .i64 22, .int .i64 16, .int .i64 12, .int .i64 11, .int .i64 10, .int .i64 8, .int .i64 7, .int .i64 5, .int .i64 4, .int .i64 2, .int .i64 1, .int .i64 0]) := rfl
  rw [← hDR.out]
  have hne : w1.heap.size ≠ g1 := by omega
  generalize (w1.alloc (.cells (divP.map natV).toArray 3)) = w2 at hrd hown2 hB2 ⊢
  generalize w1.heap.size = g at hrd hne ⊢
  clear hown1 hB1 hDR
  go_loopw [7] (fun i wr => ∃ k : Nat, k ≤ 15 ∧ i = .int .i64 k ∧ Own wr w.heap.size 4 Value.bool (some ⟨g1, 0, none⟩) 33 33 (divK k) ∧ Blk wr g 3 (divP.map natV).toArray ∧ Below w.heap.size w wr) (fun i _ => 15 - (intOf i).toNat)
  case atStart => exact ⟨0, by omega, rfl, hown2, hrd, hB2⟩
  case round =>
    obtain ⟨k, hk, rfl, hown, hb, hB⟩ := hrel
    clear hown2 hrd hB2
    by_cases hlt : k < 15
    · have hkl : k < divP.length := hlt
      have hs := divK_succ k hkl
      have hle := divP_le divP[k] (List.getElem_mem hkl)
      have hc := hb.cell (i := k) (v := natV divP[k]) (by simp [hkl])
      have HS := Lib.hid hs
      clear hs
      generalize divP[k] = p at HS hle hc
      obtain ⟨q, hq⟩ : ∃ q : Nat, (32 : Int) - (p : Int) = (q : Int) := ⟨32 - p, by omega⟩
      have hq2 : 32 - p = q := by omega
      have HQ := Lib.hid hq2
      clear hq2
      obtain ⟨g2, old, hg2, -, -, -, hx, hf⟩ := hown.at (i := q) (by omega)
      obtain rfl : g1 = g2 := by simpa using hg2
      clear hg2
      go_wp2
      go_roundw
      case rel => exact ⟨k + 1, by omega, by go_num, by rw [HS.out, HQ.out]; exact hown.set q (by omega) true, hb.setCell_ne hne _, hB.setCell hg1b _⟩
      case measure => simp [intOf]; omega
    · have hk' : k = 15 := by omega
      subst hk'
      go_wp2
      go_ret
      exact ⟨_, _, rfl, hown, hB⟩

/-- The first k bits turned over, one by one. -/
def flipK (l : List Bool) : Nat → List Bool
  | 0 => l
  | k+1 => (flipK l k).set k (!((flipK l k).getD k false))
/-- d put upon l from place i on, j of its bits, one by one. -/
def xorUp (l d : List Bool) (i : Nat) : Nat → List Bool
  | 0 => l
  | j+1 => (xorUp l d i j).set (i + j) ((xorUp l d i j).getD (i + j) false != d.getD j false)
/-- Long division: k rounds. -/
def divRun (l d : List Bool) : Nat → List Bool
  | 0 => l
  | k+1 => if (divRun l d k).getD k false = true then xorUp (divRun l d k) d k d.length else divRun l d k
theorem flipK_length (l : List Bool) (k : Nat) : (flipK l k).length = l.length := by
  induction k with
  | zero => rfl
  | succ k ih => simp [flipK, ih]
theorem xorUp_length (l d : List Bool) (i j : Nat) : (xorUp l d i j).length = l.length := by
  induction j with
  | zero => rfl
  | succ j ih => simp [xorUp, ih]
theorem divRun_length (l d : List Bool) (k : Nat) : (divRun l d k).length = l.length := by
  induction k with
  | zero => rfl
  | succ k ih =>
    simp only [divRun]; split
    · rw [xorUp_length, ih]
    · exact ih
def pad32 (b : List UInt8) : List Bool := ofL b ++ List.replicate 32 false
def sumRow (b : List UInt8) : List Bool := divRun (flipK (pad32 b) 32) divL (8 * b.length)
def refSumN (b : List UInt8) : Nat := numL (((sumRow b).drop (8 * b.length)).map fun x => !x)
theorem pad32_length (b : List UInt8) : (pad32 b).length = 8 * b.length + 32 := by simp [pad32, ofL_length]
theorem sumRow_length (b : List UInt8) : (sumRow b).length = 8 * b.length + 32 := by rw [sumRow, divRun_length, flipK_length, pad32_length]
theorem refSumN_lt (b : List UInt8) : refSumN b < 4294967296 := numL_lt _
theorem getD_of_get? {l : List Bool} {i : Nat} {y : Bool} (h : l[i]? = some y) : l.getD i false = y := by simp [List.getD, h]
theorem divL_length : divL.length = 33 := divK_length 15

set_option maxRecDepth 100000 in
set_option maxHeartbeats 4000000 in
theorem refSum_any (a : Option Addr) (n c : Nat) (b : List UInt8) (w : World) (hl : b.length = n) (hn : n ≤ 1000000000) (hr : Rd w (fun b : UInt8 => Value.int .u8 (b.toNat : Int)) a b) :
  Calls Try.prog 82 #[.slice a n c] w fun e w' => e = .returned (.int .u32 (refSumN b : Nat)) ∧ Below w.heap.size w w' := by
  have hfin : refSumN b = numL (((divRun (flipK (pad32 b) 32) divL (8 * n)).drop (8 * n)).map fun x => !x) := by unfold refSumN sumRow; rw [hl]
  have hlen : ∀ k, (divRun (flipK (pad32 b) 32) divL k).length = 8 * n + 32 := fun k => by rw [divRun_length, flipK_length, pad32_length, hl]
  have HN := Lib.hid hlen
  clear hlen
  have HF := Lib.hid hfin
  have HL := Lib.hid hl
  clear hl hfin
  go_enter Try.func82, Try.ntmps82
  go_wp2_with fail
  refine (of_any _ _ _ b _ HL.out (by omega) hr).mono ?_
  rintro e w1 ⟨a1, c1, rfl, hown1, hB1⟩
  have hsz1 := hB1.size
  go_wp2_with (at_builtin; refine wpList_zeros slBool rfl rfl _ _ Try.underlying3 rfl rfl hown1 32 rfl rfl (by omega) false rfl rfl (by omega) (by unfold maxLen; omega) hsz1 ?_; intro a2 c2 w2 hown2 hg2; have hB2 := hown1.step hB1 hg2 hsz1; clear hown1 hg2)
  obtain ⟨g, rfl, hgb, -, -, -⟩ := hown2.row (by omega)
  go_loopw [4] (fun i wr => ∃ k : Nat, k ≤ 32 ∧ i = .int .i64 k ∧ Own wr w.heap.size 4 Value.bool (some ⟨g, 0, none⟩) (8 * n + 32) c2 (flipK (pad32 b) k) ∧ Below w.heap.size w wr) (fun i _ => 32 - (intOf i).toNat)
  case atStart => exact ⟨0, by omega, rfl, hown2, hB2⟩
  case round =>
    obtain ⟨k, hk, rfl, hown, hB⟩ := hrel
    clear hown2 hB2
    by_cases hlt : k < 32
    · obtain ⟨g2, old, hg2, -, -, hget, hx, hf⟩ := hown.at (i := k) (by omega)
      obtain rfl : g = g2 := by simpa using hg2
      have hset := hown.set k (by omega) (!old)
      have HG := Lib.hid hget
      clear hg2 hget hown
      go_wp2
      go_roundw
      case rel => exact ⟨k + 1, by omega, by go_num, by rw [flipK, getD_of_get? HG.out]; exact hset, hB.setCell hgb _⟩
      case measure => simp [intOf]; omega
    · have hk' : k = 32 := by omega
      subst hk'
      go_wp2_with fail
      refine (divisor_any _).mono ?_
      rintro e w3 ⟨a3, c3, rfl, hownD, hB3⟩
      have hown3 := hown.below hB3
      have hsz := hB.size
      have hB4 := below_trans0 hB hsz hB3
      obtain ⟨gd, rfl, hgdb, -, -, -⟩ := hownD.row (by omega)
      have hgne : g ≠ gd := by
        obtain ⟨gg, hgg, -, hlt2, -, -⟩ := hown.row (by omega)
        have : g = gg := by simpa using hgg
        omega
      clear hown hB hB3
      have hownD2 := hownD.mono hsz
      clear hownD
      have hgdb2 : w.heap.size ≤ gd := by omega
      go_wp2
      generalize flipK (pad32 b) 32 = L1 at hown3 HF HN ⊢
      go_loopw [6] (fun i ws => ∃ k : Nat, k ≤ 8 * n ∧ i = .int .i64 k ∧ Own ws w.heap.size 4 Value.bool (some ⟨g, 0, none⟩) (8 * n + 32) c2 (divRun L1 divL k) ∧ Own ws w.heap.size 4 Value.bool (some ⟨gd, 0, none⟩) 33 c3 divL ∧ Below w.heap.size w ws) (fun i _ => 8 * n - (intOf i).toNat)
      case atStart => exact ⟨0, by omega, rfl, hown3, hownD2, hB4⟩
      case round =>
        obtain ⟨k, hk, rfl, hown, hD, hB⟩ := hrel
        clear hown3 hownD2 hB4
        by_cases hlt : k < 8 * n
        · obtain ⟨g2, old, hg2, -, -, hget, hx, hf⟩ := hown.at (i := k) (by omega)
          obtain rfl : g = g2 := by simpa using hg2
          have HG := Lib.hid (getD_of_get? hget)
          clear hg2 hget
          cases old with
          | false =>
            have hsame : divRun L1 divL (k + 1) = divRun L1 divL k := by rw [divRun, if_neg (by rw [HG.out]; simp)]
            have HS := Lib.hid hsame
            clear hsame
            go_wp2
            go_roundw
            case rel => exact ⟨k + 1, by omega, by go_num, by rw [HS.out]; exact hown, hD, hB⟩
            case measure => simp [intOf]; omega
          | true =>
            have hstep : divRun L1 divL (k + 1) = xorUp (divRun L1 divL k) divL k 33 := by rw [divRun, if_pos HG.out, divL_length]
            have HS := Lib.hid hstep
            clear hstep HG
            have hd : decide ((k : Int) < 8 * (n : Int)) = true := by simp; omega
            go_wp2
            go_loopw [42] (fun jj wt => ∃ j : Nat, j ≤ 33 ∧ jj = .int .i64 j ∧ Own wt w.heap.size 4 Value.bool (some ⟨g, 0, none⟩) (8 * n + 32) c2 (xorUp (divRun L1 divL k) divL k j) ∧ Own wt w.heap.size 4 Value.bool (some ⟨gd, 0, none⟩) 33 c3 divL ∧ Below w.heap.size w wt) (fun jj _ => 33 - (intOf jj).toNat)
            case atStart => exact ⟨0, by omega, rfl, hown, hD, hB⟩
            case round =>
              obtain ⟨j, hj, rfl, hownj, hDj, hBj⟩ := hrel
              clear hown hD hB hx hf
              by_cases hltj : j < 33
              · obtain ⟨g2, old, hg2, -, -, hget, hx, hf⟩ := hownj.at (i := k + j) (by omega)
                obtain rfl : g = g2 := by simpa using hg2
                obtain ⟨g3, dv, hg3, -, -, hgetd, hxd, -⟩ := hDj.at (i := j) hltj
                obtain rfl : gd = g3 := by simpa using hg3
                have hset := hownj.set (k + j) (by omega) (old != dv)
                have hx1 : xorUp (divRun L1 divL k) divL k (j + 1) = (xorUp (divRun L1 divL k) divL k j).set (k + j) (old != dv) := by
                  rw [xorUp, getD_of_get? hget, getD_of_get? hgetd]
                have HX := Lib.hid hx1
                have hDset := hDj.setCell_ne (p := ⟨g, k + j, none⟩) (by intro q hq; simp at hq; show q ≠ g; omega) (.bool (old != dv))
                have hBset := hBj.setCell (p := ⟨g, k + j, none⟩) hgb (.bool (old != dv))
                clear hg2 hg3 hget hgetd hx1 hownj hDj hBj
                go_wp2
                have s1 : IntKind.i64.wrap ((k : Int) + (j : Int)) = (k : Int) + (j : Int) := IntWalk.i64_in _ (by omega)
                have s2 : 0 ≤ (k : Int) + (j : Int) := by omega
                have s3 : ((k : Int) + (j : Int)).toNat = k + j := by omega
                have s4 : (k : Int) + (j : Int) < 8 * (n : Int) + 32 := by omega
                have s5 : (j : Int) < 33 := by omega
                go_still_tail 16, (by kernel_rfl)
                clear s1 s2 s3 s4 s5
                show wpList _ _ _ _ _ wr.drew
                go_wp2
                go_roundw
                case rel => exact ⟨j + 1, by omega, by go_num, by rw [HX.out]; exact hset.drew, hDset.drew, hBset.drew⟩
                case measure => simp [intOf]; omega
              · have hj' : j = 33 := by omega
                subst hj'
                go_wp2
                go_roundw
                case rel => exact ⟨k + 1, by omega, by go_num, by rw [HS.out]; exact hownj, hDj, hBj⟩
                case measure => simp [intOf]; omega
        · have hk' : k = 8 * n := by omega
          have hcap := hown.le_cap
          have HK := Lib.hid hk'
          clear hk'
          have hd : decide ((k : Int) < 8 * (n : Int)) = false := by simp; omega
          have hrd0 : Rd wr Value.bool (some ⟨g, 8 * n, none⟩) ((divRun L1 divL (8 * n)).drop (8 * n)) := by
            have := hown.rd.drop (8 * n)
            rw [HK.out, Nat.zero_add] at this
            exact this
          have hlenR : ((divRun L1 divL (8 * n)).drop (8 * n)).length = 32 := by rw [List.length_drop, HN.out]; omega
          generalize hR : (divRun L1 divL (8 * n)).drop (8 * n) = R at hrd0 hlenR HF
          have HR := Lib.hid hR
          have HLR := Lib.hid hlenR
          clear hR hlenR hown hD
          go_wp2
          rw [show 8 * n + 32 - 8 * n = 32 from by omega]
          go_loopw [9, 69] (fun out i wt => ∃ (m : Nat) (p : Option Addr) (c' : Nat), m ≤ 32 ∧ i = .int .i64 m ∧ out = .slice p m c' ∧ Own wt wr.heap.size 4 Value.bool p m c' ((R.take m).map fun x => !x) ∧ Below wr.heap.size wr wt) (fun _ i _ => 32 - (intOf i).toNat)
          case atStart => exact ⟨0, none, 0, by omega, rfl, rfl, by simpa using Own.nil, Below.refl _ _⟩
          case round =>
            rename_i wr4 _
            obtain ⟨m, p, c', hm, rfl, rfl, hownm, hBm⟩ := hrel
            have hszm := hBm.size
            by_cases hltm : m < 32
            · have hml : m < R.length := by rw [HLR.out]; exact hltm
              obtain ⟨b2, off2, hb2, -, hc2⟩ := (hrd0.later hBm).at (k := m) hml
              simp only [Option.some.injEq, Addr.mk.injEq] at hb2
              obtain ⟨rfl, rfl, -⟩ := hb2
              have htk : (R.take (m + 1)).map (fun x => !x) = (R.take m).map (fun x => !x) ++ [!R[m]] := by
                rw [List.take_succ_eq_append_getElem hml]; simp only [List.map_append, List.map_cons, List.map_nil]
              have HT := Lib.hid htk
              clear htk
              generalize R[m] = y at hc2 HT
              go_wp2_with (at_builtin; refine wpList_push slBool rfl _ _ rfl rfl rfl hownm (!y) ⟨wr.heap.size, 0, none⟩ rfl (cell_push rfl _ _) rfl (by omega) (by unfold maxLen; omega) hszm ?_; intro a5 c5 w5 hown5 hg5; have hB5 := hownm.step hBm hg5 hszm; clear hownm hBm hg5 hc2)
              go_roundw
              case rel => first | exact ⟨m + 1, a5, c5, by omega, by go_num, rfl, by rw [HT.out]; exact hown5, hB5⟩ | ((repeat apply Exists.intro); exact ⟨⟨m + 1, a5, c5, by omega, by go_num, rfl, by rw [HT.out]; exact hown5, hB5⟩, rfl⟩)
              case measure => simp [intOf]; omega
            · have hm' : m = 32 := by omega
              subst hm'
              have htk : R.take 32 = R := List.take_of_length_le (by rw [HLR.out]; exact Nat.le_refl _)
              rw [htk] at hownm
              go_wp2_with fail
              refine (number_any _ _ _ (R.map fun x => !x) _ (by rw [List.length_map, HLR.out]) (by omega) hownm.rd).mono ?_
              rintro e w6 ⟨rfl, rfl⟩
              go_wp2
              go_ret
              exact ⟨ret_int (by rw [HF.out]), below_trans0 hB hB.size hBm⟩
end Go.Proofs.Ytnmdgmjheopolaa
