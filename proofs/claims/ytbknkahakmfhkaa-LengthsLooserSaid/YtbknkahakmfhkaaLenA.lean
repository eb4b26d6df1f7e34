/- How packs stand in order: cmp.Compare at int, lengths.order. -/
import Derived.Test.YtbknkahakmfhkaaRows
import Derived.Test.YtbknkahakmfhkaaLib
import Derived.Test.YtbknkahakmfhkaaMem
import Derived.Shelf.SlSortCmp.InsertionK
namespace Go.Proofs.Ytbknkahakmfhkaa
open Go.RowKit Go.Shelf Go.Sort
set_option linter.unusedVariables false
set_option linter.unusedSimpArgs false

/-- A pack: how often, and its signs' slice. -/
structure Pk where
  often : Int
  ptr : Option Addr
  cap : Nat
  signs : List Nat
instance : Inhabited Pk := ⟨⟨0, none, 0, []⟩⟩
def pkE (p : Pk) : List Value := [.int .i64 p.often, .slice p.ptr p.signs.length p.cap]
theorem pkE_len (p : Pk) : (pkE p).length = 2 := rfl
theorem pkE_one (p : Pk) : ∀ v ∈ pkE p, v.oneCell' = true := by
  intro v hv
  rcases List.mem_cons.1 hv with rfl | hv
  · rfl
  · rcases List.mem_cons.1 hv with rfl | hv
    · rfl
    · cases hv
def sgnI (a b : Int) : Int := if a < b then -1 else if b < a then 1 else 0
theorem nani_any (u : Int) (w : World) : Calls Try.prog 119 #[.int .i64 u] w fun e w' => e = .returned (.bool false) ∧ w' = w := by
  have g : (u != u) = false := by simp
  go_enter Try.func119, Try.ntmps119
  go_wp2
  go_ret
  exact ⟨rfl, rfl⟩
set_option maxRecDepth 100000 in
set_option maxHeartbeats 8000000 in
theorem cmpi_any (u v : Int) (w : World) : Calls Try.prog 95 #[.int .i64 u, .int .i64 v] w fun e w' => e = .returned (.int .i64 (sgnI u v)) ∧ w' = w := by
  rcases Int.lt_trichotomy u v with h | h | h
  · have hs : sgnI u v = -1 := by unfold sgnI; rw [if_pos h]
    rw [hs]
    clear hs
    go_enter Try.func95, Try.ntmps95
    go_wp2_with fail
    refine (nani_any u _).mono ?_
    rintro e w1 ⟨rfl, rfl⟩
    go_wp2_with fail
    refine (nani_any v _).mono ?_
    rintro e w1 ⟨rfl, rfl⟩
    go_wp2
    go_ret
    exact ⟨rfl, rfl⟩
  · subst h
    have hs : sgnI u u = 0 := by unfold sgnI; rw [if_neg (by omega), if_neg (by omega)]
    rw [hs]
    clear hs
    go_enter Try.func95, Try.ntmps95
    go_wp2_with fail
    refine (nani_any u _).mono ?_
    rintro e w1 ⟨rfl, rfl⟩
    go_wp2_with fail
    refine (nani_any u _).mono ?_
    rintro e w1 ⟨rfl, rfl⟩
    go_wp2
    go_ret
    exact ⟨rfl, rfl⟩
  · have hs : sgnI u v = 1 := by unfold sgnI; rw [if_neg (by omega), if_pos h]
    have g2 : ¬ u < v := by omega
    rw [hs]
    clear hs
    go_enter Try.func95, Try.ntmps95
    go_wp2_with fail
    refine (nani_any u _).mono ?_
    rintro e w1 ⟨rfl, rfl⟩
    go_wp2_with fail
    refine (nani_any v _).mono ?_
    rintro e w1 ⟨rfl, rfl⟩
    go_wp2
    go_ret
    exact ⟨rfl, rfl⟩
set_option maxRecDepth 100000 in
set_option maxHeartbeats 8000000 in
theorem order_any (x y : Pk) (w : World) : Calls Try.prog 75 #[.agg (pkE x).toArray, .agg (pkE y).toArray] w fun e w' => e = .returned (.int .i64 (sgnI x.often y.often)) ∧ ∃ os, w' = grow w os := by
  obtain ⟨o1, p1, c1, s1⟩ := x
  obtain ⟨o2, p2, c2, s2⟩ := y
  simp only [pkE]
  go_enter Try.func75, Try.ntmps75
  go_wp2_with fail
  refine (cmpi_any o1 o2 _).mono ?_
  rintro e w1 ⟨rfl, rfl⟩
  go_wp2
  go_ret
  exact ⟨rfl, _, by rw [alloc_eq_grow, alloc_eq_grow, grow_grow]⟩
def renI : Go.Shelf.Ren := ⟨fun | 20 => 122 | n => n, fun | 22 => 100 | 24 => 104 | 25 => 106 | n => n, fun n => n⟩
theorem laysI : SlLaysF0.n20 Try.prog renI where
  mixed := by kernel_rfl
  f20 := ⟨Try.f122.name, by kernel_rfl, Try.func122.trans (congrArg some (by kernel_rfl))⟩
  t0 := Try.underlying0
  a0 := Try.isAgg0
  z0 := Try.sizeOf0
  v0 := Try.zeroValue0
  t3 := Try.underlying3
  a3 := Try.isAgg3
  z3 := Try.sizeOf3
  v3 := Try.zeroValue3
  t4 := Try.underlying4
  a4 := Try.isAgg4
  z4 := Try.sizeOf4
  v4 := Try.zeroValue4
  t22 := Try.underlying100
  a22 := Try.isAgg100
  z22 := Try.sizeOf100
  v22 := Try.zeroValue100
  t25 := Try.underlying106
  a25 := Try.isAgg106
  z25 := Try.sizeOf106
  v25 := Try.zeroValue106
def cfP (x y : Pk) : Int := sgnI x.often y.often
def insP (d : Array Pk) : Array Pk := Sort.insertionSort (ltOf cfP) d 0 d.size
theorem entersO : ∀ args w, (callFunc 75 args).run Try.prog w = .ok (.enter 75 args) w :=
  enters_of Try.func75 (by kernel_rfl) rfl
theorem cmpLaysP (blk off size : Nat) (w : World) : CmpLays Try.prog 75 #[] pkE 2 cfP blk off size w := by
  intro m os dk hs x y
  refine (order_any x y _).mono ?_
  rintro e w' ⟨rfl, os', rfl⟩
  exact ⟨rfl, 0, os', rfl⟩
theorem ins_any (blk off cap : Nat) (d : Array Pk) (w : World) (hH : HoldsK pkE 2 w blk off d) (hblk : blk < w.heap.size) (hsz : d.size < 4611686018427387904) :
  Calls Try.prog 122 #[.slice (some ⟨blk, off, none⟩) d.size cap, .int .i64 0, .int .i64 d.size, .func (.func 75) #[] #[]] w fun e w' =>
    e = .returned (.tuple #[]) ∧ ∃ n os, w' = sortWorldK pkE 2 w blk off n (insP d) os :=
  AnyQ.insertionSortCmpFunc laysI 2 Try.isAgg104 Try.sizeOf104 pkE pkE_len pkE_one cfP 75 #[] blk off cap 0 d.size d w entersO (cmpLaysP blk off d.size w) hH hblk (Nat.zero_le _) (Nat.le_refl _) hsz
set_option maxRecDepth 100000 in
set_option maxHeartbeats 8000000 in
theorem stable_small (blk off cap n : Nat) (d : Array Pk) (w : World) (hn : d.size = n) (hH : HoldsK pkE 2 w blk off d) (hblk : blk < w.heap.size) (hsz : n < 20) :
  Calls Try.prog 105 #[.slice (some ⟨blk, off, none⟩) n cap, .int .i64 n, .func (.func 75) #[] #[]] w fun e w' =>
    e = .returned (.tuple #[]) ∧ ∃ m os, w' = sortWorldK pkE 2 w blk off m (insP d) os := by
  have HI := Lib.hid (ins_any blk off cap d w hH hblk (by omega))
  rw [hn] at HI
  clear hH hn
  have g1 : ¬ (20 : Int) ≤ (n : Int) := by omega
  have g2 : ¬ (20 : Int) < (n : Int) := by omega
  go_enter Try.func105, Try.ntmps105
  go_wp2
  go_loopw [7, 8] (fun x7 x8 wr => x7 = .int .i64 0 ∧ x8 = .int .i64 20 ∧ wr = w) (fun _ _ _ => 0)
  case atStart => exact ⟨rfl, rfl, rfl⟩
  case round =>
    obtain ⟨rfl, rfl, rfl⟩ := hrel
    go_wp2_with fail
    refine HI.out.mono ?_
    rintro e w1 ⟨rfl, m, os, hw⟩
    have HW := Lib.hid hw
    clear hw
    go_wp2
    go_loopw [6] (fun x6 wr => x6 = .int .i64 20 ∧ wr = w1) (fun _ _ => 0)
    case atStart => exact ⟨rfl, rfl⟩
    case round =>
      obtain ⟨rfl, rfl⟩ := hrel
      go_wp2
      go_end0
      exact ⟨rfl, m, os, HW.out⟩
end Go.Proofs.Ytbknkahakmfhkaa
