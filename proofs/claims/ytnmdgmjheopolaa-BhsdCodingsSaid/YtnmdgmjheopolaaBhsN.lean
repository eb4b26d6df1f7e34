/- bhsd.ReadRow. -/
import Derived.Test.YtnmdgmjheopolaaBhsL
namespace Go.Proofs.Ytnmdgmjheopolaa
open Go.RowKit
set_option linter.unusedVariables false
set_option linter.unusedSimpArgs false

theorem slInt : SlT Try.prog 35 3 (.int .i64 0) 1 8 := ⟨Try.underlying35, by kernel_rfl, rfl⟩
def lenOf : Value → Nat
  | .slice _ n _ => n
  | _ => 0
theorem Own.rowB {α : Type} {w : World} {base : Nat} {e : TypeId} {E : α → Value} {a : Option Addr} {n c : Nat} {l : List α} (h : Own w base e E a n c l) : ∀ k, (Value.slice a n c).ownBlock = some k → base ≤ k := fun k hk => (h.1.lt k hk).1
theorem Own.grownB {α : Type} {w w' : World} {base : Nat} {e : TypeId} {E : α → Value} {a : Option Addr} {n c : Nat} {l : List α} {row : Option Nat} (h : Own w base e E a n c l) (hg : w.grownBy w' row) (hrow : ∀ k, row = some k → k < base) : Own w' base e E a n c l := by
  obtain ⟨⟨h0, h2⟩, h3⟩ := h
  refine ⟨⟨h0, ?_⟩, h3⟩
  rcases h2 with h2 | ⟨g, cap, cur, hv, hb, hh, r⟩
  · exact .inl h2
  · exact .inr ⟨g, cap, cur, hv, hb, (hg.block g (Array.getElem?_eq_some_iff.1 hh).1 (fun e => by have := hrow g e.symm; omega)).trans hh, r⟩
theorem grownBy_trans_new {a b c : World} {row row2 : Option Nat} (h : a.grownBy b row) (k : b.grownBy c row2) (hr : ∀ j, row2 = some j → a.heap.size ≤ j) : a.grownBy c row :=
  ⟨k.os.trans h.os, k.tape.trans h.tape, k.output.trans h.output, Nat.le_trans h.size k.size, fun i hi hne => (k.block i (Nat.lt_of_lt_of_le hi h.size) (fun e => by have := hr i e.symm; omega)).trans (h.block i hi hne)⟩
theorem CurOk.lt {w : World} {g : Nat} {l : List UInt8} {p : Nat} {er : Int} (h : CurOk w g l p er) : g < w.heap.size := by
  obtain ⟨a, n, c, hb, _⟩ := h.ex; exact hb.lt
theorem CurOk.lenB {w : World} {g : Nat} {l : List UInt8} {p : Nat} {er : Int} (h : CurOk w g l p er) : l.length ≤ 1000000000000 ∧ p ≤ l.length := by
  obtain ⟨a, n, c, _, h2, h3, h4, _, _, _, _, h5⟩ := h.ex
  omega
theorem RefOk.lenB {w : World} {g : Nat} {l : List UInt8} {p : Nat} {er : Int} (h : RefOk w g l p er) : l.length ≤ 1000000000000 ∧ p ≤ l.length := h.len

theorem numC_small (s u : Int) (hu : 0 ≤ u ∧ u < 4294967296) : -4294967296 ≤ numC s u ∧ numC s u ≤ 4294967296 := by
  unfold numC partC
  split
  · omega
  · split <;> split <;> (try split) <;> omega
theorem getP_ge (low : Nat) (l : List UInt8) (k p : Nat) : p ≤ getP low l k p := by
  induction k generalizing p with
  | zero => exact Nat.le_refl _
  | succ k ih =>
    rw [getP]
    cases hx : l[p]? with
    | none => exact Nat.le_refl _
    | some x => simp only; split; omega; have := ih (p + 1); omega
theorem getP_gt (low : Nat) (l : List UInt8) (k p : Nat) (h : getE low l (k + 1) p = 0) : p + 1 ≤ getP low l (k + 1) p := by
  rw [getE] at h
  rw [getP]
  cases hx : l[p]? with
  | none => rw [hx] at h; simp at h
  | some x => simp only; split; omega; exact getP_ge _ _ _ _
section
variable (b h s d : Int) (l : List UInt8)
theorem gotP_ge (p : Nat) : p ≤ gotP b h s d l p 0 := by
  unfold gotP; split; omega; exact getP_ge _ _ _ _
theorem gotP_gt (p : Nat) (hR : RightC b h s d) (he : gotE b h s d l p 0 = 0) : p + 1 ≤ gotP b h s d l p 0 := by
  unfold gotE at he; unfold gotP
  rw [if_neg (by omega), if_neg (by simpa using hR)] at he
  rw [if_neg (by simpa using hR)]
  split at he
  · omega
  · rename_i h6
    obtain ⟨k, hk⟩ : ∃ k, b.toNat = k + 1 := ⟨b.toNat - 1, by have := hR.1; omega⟩
    rw [hk] at h6 ⊢
    exact getP_gt _ _ _ _ (by omega)
theorem gotV_small (p : Nat) (er : Int) : -4294967296 ≤ gotV b h s d l p er ∧ gotV b h s d l p er ≤ 4294967296 := by
  unfold gotV
  split
  · rename_i he
    refine numC_small _ _ ⟨by omega, ?_⟩
    unfold gotE at he
    split at he; · omega
    split at he; · omega
    split at he; · omega
    split at he <;> omega
  · omega
def gotW (last v : Int) : Int := if d = 1 then roundC s (last + v) else v
def rdE (p : Nat) : Int := if gotE b h s d l p 0 = 0 ∧ ¬ BoundC s (gotV b h s d l p 0) then 5 else gotE b h s d l p 0
/-- The numbers that are read from place p on, the place behind them, the error. -/
def rdRun : Nat → Nat → Int → List Int × Nat × Int
  | 0, p, last => ([], p, 0)
  | k+1, p, last => if rdE b h s d l p = 0 then (gotW s d last (gotV b h s d l p 0) :: (rdRun k (gotP b h s d l p 0) (gotW s d last (gotV b h s d l p 0))).1, (rdRun k (gotP b h s d l p 0) (gotW s d last (gotV b h s d l p 0))).2) else ([], gotP b h s d l p 0, rdE b h s d l p)
structure RdSt (p0 N k p : Nat) (last : Int) (out : List Int) (er : Int) : Prop where
  le : k ≤ N
  len : out.length = k
  small : er = 0 → -4294967296 ≤ last ∧ last ≤ 4294967296
  kp : k ≤ p + 1 ∧ (er = 0 → k ≤ p)
  run : (er = 0 ∧ out ++ (rdRun b h s d l (N - k) p last).1 = (rdRun b h s d l N p0 0).1 ∧ (rdRun b h s d l (N - k) p last).2 = (rdRun b h s d l N p0 0).2) ∨ (er ≠ 0 ∧ (rdRun b h s d l N p0 0).2 = (p, er))
end
section
variable {b h s d : Int} {l : List UInt8} {p0 N k p : Nat} {last er : Int} {out : List Int}
theorem RdSt.start : RdSt b h s d l p0 N 0 p0 0 [] 0 := ⟨by omega, rfl, fun _ => by omega, ⟨by omega, fun _ => by omega⟩, .inl ⟨rfl, by rw [Nat.sub_zero]; rfl, by rw [Nat.sub_zero]⟩⟩
theorem RdSt.next (g : RdSt b h s d l p0 N k p last out 0) (hR : RightC b h s d) (hk : k < N) :
    RdSt b h s d l p0 N (k + 1) (gotP b h s d l p 0) (gotW s d last (gotV b h s d l p 0)) (out ++ [gotW s d last (gotV b h s d l p 0)]) (if gotE b h s d l p 0 = 0 ∧ ¬ BoundC s (gotV b h s d l p 0) then 5 else gotE b h s d l p 0) := by
  have hge := gotP_ge b h s d l p
  have hkp := g.kp.2 rfl
  have hrun := g.run
  obtain ⟨m, hm⟩ : ∃ m, N - k = m + 1 := ⟨N - k - 1, by omega⟩
  have hm2 : N - (k + 1) = m := by omega
  rw [hm, rdRun] at hrun
  change RdSt b h s d l p0 N (k + 1) _ _ _ (rdE b h s d l p)
  refine ⟨by omega, by simp [g.len], fun he => ?_, ⟨by omega, fun he => ?_⟩, ?_⟩
  · have hb : BoundC s (gotV b h s d l p 0) := by
      unfold rdE at he
      split at he
      · omega
      · rename_i hn; exact Decidable.byContradiction fun hc => hn ⟨he, hc⟩
    unfold gotW
    split
    · have := round_bound s (last + gotV b h s d l p 0)
      unfold BoundC at this; split at this <;> omega
    · unfold BoundC at hb; split at hb <;> omega
  · have he2 : gotE b h s d l p 0 = 0 := by
      unfold rdE at he; split at he
      · omega
      · exact he
    have := gotP_gt b h s d l p hR he2
    omega
  · rcases hrun with ⟨-, h1, h2⟩ | ⟨h1, _⟩
    · by_cases he : rdE b h s d l p = 0
      · rw [if_pos he] at h1 h2
        exact .inl ⟨he, by rw [hm2, List.append_assoc]; exact h1, by rw [hm2]; exact h2⟩
      · rw [if_neg he] at h1 h2
        exact .inr ⟨he, h2.symm⟩
    · omega
theorem RdSt.full (g : RdSt b h s d l p0 N k p last out 0) (hk : ¬ k < N) : rdRun b h s d l N p0 0 = (out, p, 0) := by
  have hle := g.le
  rcases g.run with ⟨-, h1, h2⟩ | ⟨h1, _⟩
  · have hm : N - k = 0 := by omega
    rw [hm, rdRun] at h1 h2
    rw [List.append_nil] at h1
    exact Prod.ext h1.symm h2.symm
  · omega
theorem RdSt.bad (g : RdSt b h s d l p0 N k p last out er) (he : er ≠ 0) : (rdRun b h s d l N p0 0).2 = (p, er) := by
  rcases g.run with ⟨h1, _⟩ | ⟨_, h1⟩
  · exact absurd h1 he
  · exact h1
end
/-- What ReadRow answers: the numbers, the place, the error. -/
def rdRes (b h s d : Int) (l : List UInt8) (n : Int) (p : Nat) (er : Int) : List Int × Nat × Int :=
  if er ≠ 0 then ([], p, er) else if n < 0 ∨ ¬ RightC b h s d then ([], p, 1) else if (rdRun b h s d l n.toNat p 0).2.2 = 0 then rdRun b h s d l n.toNat p 0 else ([], (rdRun b h s d l n.toNat p 0).2)
def RdPost (w : World) (g : Nat) (b h s d : Int) (l : List UInt8) (n : Int) (p : Nat) (er : Int) (e : Ending) (w' : World) : Prop :=
  ∃ a k c, e = .returned (.slice a k c) ∧ (rdRes b h s d l n p er).1.length = k ∧ k ≤ 1000000000001 ∧ Own w' w.heap.size 3 iE a k c (rdRes b h s d l n p er).1 ∧ CurOk w' g l (rdRes b h s d l n p er).2.1 (rdRes b h s d l n p er).2.2 ∧ w.grownBy w' (some g)
def RRdPost (w : World) (g : Nat) (b h s d : Int) (l : List UInt8) (n : Int) (p : Nat) (er : Int) (e : Ending) (w' : World) : Prop :=
  ∃ a k c, e = .returned (.slice a k c) ∧ (rdRes b h s d l n p er).1.length = k ∧ k ≤ 1000000000001 ∧ Own w' w.heap.size 3 iE a k c (rdRes b h s d l n p er).1 ∧ RefOk w' g l (rdRes b h s d l n p er).2.1 (rdRes b h s d l n p er).2.2 ∧ w.grownBy w' (some g)
section
variable {b h s d : Int} {l : List UInt8} {n : Int} {p : Nat} {er : Int}
theorem rdRes_er (h1 : er ≠ 0) : rdRes b h s d l n p er = ([], p, er) := by unfold rdRes; rw [if_pos h1]
theorem rdRes_arg (h1 : n < 0 ∨ ¬ RightC b h s d) : rdRes b h s d l n p 0 = ([], p, 1) := by unfold rdRes; rw [if_neg (by omega), if_pos h1]
theorem rdRes_run {N : Nat} (hR : RightC b h s d) : rdRes b h s d l (N : Int) p 0 = if (rdRun b h s d l N p 0).2.2 = 0 then rdRun b h s d l N p 0 else ([], (rdRun b h s d l N p 0).2) := by
  unfold rdRes; rw [if_neg (by omega), if_neg (by rintro (h | h); omega; exact h hR)]; rfl
theorem rdRes_full {N k q : Nat} {last : Int} {out : List Int} (hR : RightC b h s d) (g : RdSt b h s d l p N k q last out 0) (hk : ¬ k < N) : rdRes b h s d l (N : Int) p 0 = (out, q, 0) := by
  rw [rdRes_run hR, g.full hk]; rfl
theorem rdRes_bad {N k q : Nat} {last er : Int} {out : List Int} (hR : RightC b h s d) (g : RdSt b h s d l p N k q last out er) (he : er ≠ 0) : rdRes b h s d l (N : Int) p 0 = ([], q, er) := by
  rw [rdRes_run hR, g.bad he, if_neg he]
end

set_option maxRecDepth 100000 in
set_option maxHeartbeats 16000000 in
theorem bReadRow_any (g : Nat) (l : List UInt8) (p : Nat) (er b h s d n : Int) (w : World) (hc : CurOk w g l p er) (hb0 : In64 b) (hh0 : In64 h) (hs0 : In64 s) (hd0 : In64 d) (hn0 : In64 n) :
  Calls Try.prog 52 #[.pointer (some ⟨g, 0, none⟩), .agg #[.int .i64 b, .int .i64 h, .int .i64 s, .int .i64 d], .int .i64 n] w (RdPost w g b h s d l n p er) := by
  have hgl := hc.lt
  have hpl := hc.lenB
  by_cases hgood : er = 0 ∧ 0 ≤ n ∧ RightC b h s d
  · obtain ⟨rfl, hn, hR⟩ := hgood
    obtain ⟨N, rfl⟩ := Int.eq_ofNat_of_zero_le hn
    have hD := Lib.hid (decide_eq_true hR)
    have HR := Lib.hid hR
    clear hR hn
    have hn1 : ¬ ((N : Int) < 0) := by omega
    have hn2 := hn0.2
    go_enter Try.func52, Try.ntmps52
    go_wp2_with fail
    refine (bRight_any b h s d _ hb0 hh0 hs0 hd0).mono ?_
    rw [hD.out]
    rintro e w1 ⟨rfl, hB⟩
    obtain ⟨hblk, hc0, hc1, hc2, hc3, hB1⟩ := cod_cells hB
    have hcw := hc.below hB1
    have hg1 := grownBy_of_below (some g) hB1
    have hsz1 : w.heap.size + 1 ≤ w1.heap.size := hblk.lt
    clear hB
    go_wp2
    go_loopw [7, 8] (fun x7 x8 wr => ∃ (k p1 c' : Nat) (a' : Option Addr) (out : List Int) (last er : Int), x7 = .slice a' k c' ∧ x8 = .int .i64 last ∧ RdSt b h s d l p N k p1 last out er ∧ Own wr (w.heap.size + 1) 3 iE a' k c' out ∧ CurOk wr g l p1 er ∧ Blk wr w.heap.size 23 #[.int .i64 b, .int .i64 h, .int .i64 s, .int .i64 d] ∧ w.heap.size + 1 ≤ wr.heap.size ∧ w.grownBy wr (some g)) (fun x7 _ _ => N - lenOf x7)
    case atStart => exact ⟨0, p, 0, none, [], 0, 0, rfl, rfl, RdSt.start, Own.nil, hcw, hblk, hsz1, hg1⟩
    case round =>
      clear hc0 hc1 hc2 hc3 hblk hcw hg1 hB1 hsz1 hc
      obtain ⟨k, p1, c', a', out, last, er, rfl, rfl, hst, hown, hcu, hblk, hszr, hgr⟩ := hrel
      obtain ⟨hc0, hc1, hc2, hc3⟩ := hblk.four
      have hlen := hcu.lenB
      have hkN := hst.le
      have hk1 := hst.kp.1
      by_cases he : er = 0
      · subst he
        by_cases hlt : k < N
        · have hsm := hst.small rfl
          have HNX := Lib.hid (hst.next HR.out hlt)
          go_wp2_with fail
          refine (cErr_any g l p1 0 _ hcu).mono ?_
          rintro e w' ⟨rfl, rfl⟩
          go_wp2_with fail
          refine (bGet_any g l p1 0 b h s d _ hcu hb0 hh0 hs0 hd0).mono ?_
          rintro e w2 ⟨rfl, hcu2, hg2⟩
          have hblk2 := hblk.grown hg2 (by simp; omega)
          have hown2 := hown.grownB hg2 (fun j e => by simp at e; omega)
          have hgr2 := grownBy_trans hgr hg2
          have hvs := gotV_small b h s d l p1 0
          have hlen2 := hcu2.lenB
          clear hc0 hc1 hc2 hc3 hblk hown hgr hg2 hcu
          generalize gotV b h s d l p1 0 = v at HNX hvs ⊢
          generalize gotP b h s d l p1 0 = p2 at HNX hcu2 hlen2
          generalize gotE b h s d l p1 0 = e1 at HNX hcu2
          clear hst
          obtain ⟨hc0, hc1, hc2, hc3⟩ := hblk2.four
          go_wp2_with fail
          refine (bBound_any b h s d v _ (by unfold In64; omega)).mono ?_
          rintro e w3 ⟨rfl, hB3⟩
          have hcu3 := hcu2.below hB3
          have hblk3 := hblk2.below hB3
          have hown3 := hown2.below hB3
          have hgr3 := grownBy_trans hgr2 (grownBy_of_below (some g) hB3)
          clear hc0 hc1 hc2 hc3 hcu2 hblk2 hown2 hgr2 hB3
          obtain ⟨hc0, hc1, hc2, hc3⟩ := hblk3.four
          by_cases hbd : BoundC s v
          · rw [if_neg (by simp [hbd])] at HNX
            rw [decide_eq_true hbd]
            clear hbd
            by_cases hd1 : d = 1
            · have hw : gotW s d last v = roundC s (last + v) := if_pos hd1
              rw [hw] at HNX
              clear hw
              have hd1' : (d == 1) = true := beq_iff_eq.2 hd1
              clear hd1
              go_wp2_with fail
              refine (bRound_any b h s d (last + v) _ (by unfold In64; omega)).mono ?_
              rintro e w4 ⟨rfl, hB4⟩
              have hcu4 := hcu3.below hB4
              have hblk4 := hblk3.below hB4
              have hown4 := hown3.below hB4
              have hgr4 := grownBy_trans hgr3 (grownBy_of_below (some g) hB4)
              clear hc0 hc1 hc2 hc3 hcu3 hblk3 hown3 hgr3 hB4
              obtain ⟨hc0, hc1, hc2, hc3⟩ := hblk4.four
              obtain ⟨y, hy⟩ : ∃ y, y = roundC s (last + v) := ⟨_, rfl⟩
              rw [← hy] at HNX ⊢
              clear hy
              have hrow4 := hown4.rowB
              have hblkn : some w.heap.size ≠ (Value.slice a' k c').ownBlock := fun e => by have := hrow4 w.heap.size e.symm; omega
              have hcurn : ∀ j, (Value.slice a' k c').ownBlock = some j → g < j := fun j e => by have := hrow4 j e; omega
              have hnewn : ∀ j, (Value.slice a' k c').ownBlock = some j → w.heap.size ≤ j := fun j e => by have := hrow4 j e; omega
              have hsz4 : w.heap.size + 1 ≤ w4.heap.size := hblk4.lt
              have HROW := Lib.hid (And.intro hblkn (And.intro hcurn hnewn))
              clear hrow4 hblkn hcurn hnewn
              go_wp2_with (at_builtin; refine wpList_push slInt rfl _ _ rfl rfl rfl hown4 y ⟨w4.heap.size, 0, none⟩ rfl (cell_push rfl _ _) rfl (by omega) (by unfold maxLen; omega) hsz4 ?_; intro a5 c5 w5 hown5 hg5; have hcu5 := hcu4.grown hg5 HROW.out.2.1; have hblk5 := hblk4.grown hg5 HROW.out.1; have hgr5 := grownBy_trans_new hgr4 hg5 HROW.out.2.2; have hsz5 : w.heap.size + 1 ≤ w5.heap.size := hblk5.lt; obtain ⟨hd0', hd1', hd2', hd3'⟩ := hblk5.four; clear hown4 hg5 hcu4 hblk4 hgr4 hsz4 hc0 hc1 hc2 hc3)
              go_roundw
              case rel => exact ⟨k + 1, p2, c5, a5, _, _, e1, rfl, rfl, HNX.out, hown5, hcu5, hblk5, hsz5, hgr5⟩
              case measure => simp only [lenOf]; omega
            · have hw : gotW s d last v = v := if_neg hd1
              rw [hw] at HNX
              clear hw
              have hd1' : (d == 1) = false := beq_eq_false_iff_ne.2 hd1
              clear hd1
              obtain ⟨w4, hw4⟩ : ∃ w4, w4 = w3 := ⟨_, rfl⟩
              subst hw4
              have hcu4 := hcu3
              have hblk4 := hblk3
              have hown4 := hown3
              have hgr4 := hgr3
              clear hcu3 hblk3 hown3 hgr3
              have hrow4 := hown4.rowB
              have hblkn : some w.heap.size ≠ (Value.slice a' k c').ownBlock := fun e => by have := hrow4 w.heap.size e.symm; omega
              have hcurn : ∀ j, (Value.slice a' k c').ownBlock = some j → g < j := fun j e => by have := hrow4 j e; omega
              have hnewn : ∀ j, (Value.slice a' k c').ownBlock = some j → w.heap.size ≤ j := fun j e => by have := hrow4 j e; omega
              have hsz4 : w.heap.size + 1 ≤ w4.heap.size := hblk4.lt
              have HROW := Lib.hid (And.intro hblkn (And.intro hcurn hnewn))
              clear hrow4 hblkn hcurn hnewn
              go_wp2_with (at_builtin; refine wpList_push slInt rfl _ _ rfl rfl rfl hown4 v ⟨w4.heap.size, 0, none⟩ rfl (cell_push rfl _ _) rfl (by omega) (by unfold maxLen; omega) hsz4 ?_; intro a5 c5 w5 hown5 hg5; have hcu5 := hcu4.grown hg5 HROW.out.2.1; have hblk5 := hblk4.grown hg5 HROW.out.1; have hgr5 := grownBy_trans_new hgr4 hg5 HROW.out.2.2; have hsz5 : w.heap.size + 1 ≤ w5.heap.size := hblk5.lt; obtain ⟨hd0', hd1', hd2', hd3'⟩ := hblk5.four; clear hown4 hg5 hcu4 hblk4 hgr4 hsz4 hc0 hc1 hc2 hc3)
              go_roundw
              case rel => exact ⟨k + 1, p2, c5, a5, _, _, e1, rfl, rfl, HNX.out, hown5, hcu5, hblk5, hsz5, hgr5⟩
              case measure => simp only [lenOf]; omega
          · have he2 : (if e1 = 0 ∧ ¬ BoundC s v then 5 else e1) = failE e1 5 := by unfold failE; simp [hbd]
            rw [he2] at HNX
            rw [decide_eq_false hbd]
            clear hbd he2
            go_wp2_with fail
            refine (cFail_any g l p2 e1 5 w3 hcu3).mono ?_
            rintro e w3b ⟨rfl, hcu3b, hg3⟩
            have hblk3b := hblk3.grown hg3 (by simp; omega)
            have hown3b := hown3.grownB hg3 (fun j e => by simp at e; omega)
            have hgr3b := grownBy_trans hgr3 hg3
            clear hc0 hc1 hc2 hc3 hcu3 hblk3 hown3 hgr3 hg3
            generalize failE e1 5 = e2 at HNX hcu3b
            obtain ⟨hc0, hc1, hc2, hc3⟩ := hblk3b.four
            by_cases hd1 : d = 1
            · have hw : gotW s d last v = roundC s (last + v) := if_pos hd1
              rw [hw] at HNX
              clear hw
              have hd1' : (d == 1) = true := beq_iff_eq.2 hd1
              clear hd1
              go_wp2_with fail
              refine (bRound_any b h s d (last + v) _ (by unfold In64; omega)).mono ?_
              rintro e w4 ⟨rfl, hB4⟩
              have hcu4 := hcu3b.below hB4
              have hblk4 := hblk3b.below hB4
              have hown4 := hown3b.below hB4
              have hgr4 := grownBy_trans hgr3b (grownBy_of_below (some g) hB4)
              clear hc0 hc1 hc2 hc3 hcu3b hblk3b hown3b hgr3b hB4
              obtain ⟨hc0, hc1, hc2, hc3⟩ := hblk4.four
              obtain ⟨y, hy⟩ : ∃ y, y = roundC s (last + v) := ⟨_, rfl⟩
              rw [← hy] at HNX ⊢
              clear hy
              have hrow4 := hown4.rowB
              have hblkn : some w.heap.size ≠ (Value.slice a' k c').ownBlock := fun e => by have := hrow4 w.heap.size e.symm; omega
              have hcurn : ∀ j, (Value.slice a' k c').ownBlock = some j → g < j := fun j e => by have := hrow4 j e; omega
              have hnewn : ∀ j, (Value.slice a' k c').ownBlock = some j → w.heap.size ≤ j := fun j e => by have := hrow4 j e; omega
              have hsz4 : w.heap.size + 1 ≤ w4.heap.size := hblk4.lt
              have HROW := Lib.hid (And.intro hblkn (And.intro hcurn hnewn))
              clear hrow4 hblkn hcurn hnewn
              go_wp2_with (at_builtin; refine wpList_push slInt rfl _ _ rfl rfl rfl hown4 y ⟨w4.heap.size, 0, none⟩ rfl (cell_push rfl _ _) rfl (by omega) (by unfold maxLen; omega) hsz4 ?_; intro a5 c5 w5 hown5 hg5; have hcu5 := hcu4.grown hg5 HROW.out.2.1; have hblk5 := hblk4.grown hg5 HROW.out.1; have hgr5 := grownBy_trans_new hgr4 hg5 HROW.out.2.2; have hsz5 : w.heap.size + 1 ≤ w5.heap.size := hblk5.lt; obtain ⟨hd0', hd1', hd2', hd3'⟩ := hblk5.four; clear hown4 hg5 hcu4 hblk4 hgr4 hsz4 hc0 hc1 hc2 hc3)
              go_roundw
              case rel => exact ⟨k + 1, p2, c5, a5, _, _, e2, rfl, rfl, HNX.out, hown5, hcu5, hblk5, hsz5, hgr5⟩
              case measure => simp only [lenOf]; omega
            · have hw : gotW s d last v = v := if_neg hd1
              rw [hw] at HNX
              clear hw
              have hd1' : (d == 1) = false := beq_eq_false_iff_ne.2 hd1
              clear hd1
              obtain ⟨w4, hw4⟩ : ∃ w4, w4 = w3b := ⟨_, rfl⟩
              subst hw4
              have hcu4 := hcu3b
              have hblk4 := hblk3b
              have hown4 := hown3b
              have hgr4 := hgr3b
              clear hcu3b hblk3b hown3b hgr3b
              have hrow4 := hown4.rowB
              have hblkn : some w.heap.size ≠ (Value.slice a' k c').ownBlock := fun e => by have := hrow4 w.heap.size e.symm; omega
              have hcurn : ∀ j, (Value.slice a' k c').ownBlock = some j → g < j := fun j e => by have := hrow4 j e; omega
              have hnewn : ∀ j, (Value.slice a' k c').ownBlock = some j → w.heap.size ≤ j := fun j e => by have := hrow4 j e; omega
              have hsz4 : w.heap.size + 1 ≤ w4.heap.size := hblk4.lt
              have HROW := Lib.hid (And.intro hblkn (And.intro hcurn hnewn))
              clear hrow4 hblkn hcurn hnewn
              go_wp2_with (at_builtin; refine wpList_push slInt rfl _ _ rfl rfl rfl hown4 v ⟨w4.heap.size, 0, none⟩ rfl (cell_push rfl _ _) rfl (by omega) (by unfold maxLen; omega) hsz4 ?_; intro a5 c5 w5 hown5 hg5; have hcu5 := hcu4.grown hg5 HROW.out.2.1; have hblk5 := hblk4.grown hg5 HROW.out.1; have hgr5 := grownBy_trans_new hgr4 hg5 HROW.out.2.2; have hsz5 : w.heap.size + 1 ≤ w5.heap.size := hblk5.lt; obtain ⟨hd0', hd1', hd2', hd3'⟩ := hblk5.four; clear hown4 hg5 hcu4 hblk4 hgr4 hsz4 hc0 hc1 hc2 hc3)
              go_roundw
              case rel => exact ⟨k + 1, p2, c5, a5, _, _, e2, rfl, rfl, HNX.out, hown5, hcu5, hblk5, hsz5, hgr5⟩
              case measure => simp only [lenOf]; omega
        · have hfin := rdRes_full HR.out hst hlt
          have hown' := hown.len
          have HF : Hid (RdPost w g b h s d l N p 0 (.returned (.slice a' k c')) wr) := Lib.hid ⟨a', k, c', rfl, by rw [hfin]; exact hown.len, by omega, by rw [hfin]; exact hown.mono (by omega), by rw [hfin]; exact hcu, hgr⟩
          have hkN2 : k = N := by omega
          clear hfin hst hown hown'
          subst hkN2
          go_wp2_with fail
          refine (cErr_any g l p1 0 _ hcu).mono ?_
          rintro e w' ⟨rfl, rfl⟩
          go_wp2_with fail
          refine (cErr_any g l p1 0 _ hcu).mono ?_
          rintro e w' ⟨rfl, rfl⟩
          go_wp2
          go_ret
          exact HF.out
      · have hfin := rdRes_bad HR.out hst he
        have HF : Hid (RdPost w g b h s d l N p 0 (.returned (.slice none 0 0)) wr) := Lib.hid ⟨none, 0, 0, rfl, by rw [hfin]; rfl, by omega, by rw [hfin]; exact Own.nil, by rw [hfin]; exact hcu, hgr⟩
        have hne' : (er == 0) = false := beq_eq_false_iff_ne.2 he
        have hne2 : (er != 0) = true := bne_iff_ne.2 he
        clear hfin hst hown he
        go_wp2_with fail
        refine (cErr_any g l p1 er _ hcu).mono ?_
        rintro e w' ⟨rfl, rfl⟩
        go_wp2_with fail
        refine (cErr_any g l p1 er _ hcu).mono ?_
        rintro e w' ⟨rfl, rfl⟩
        go_wp2
        go_ret
        exact HF.out
  · obtain ⟨e0, he0⟩ : ∃ e0, e0 = failE er 1 := ⟨_, rfl⟩
    have hne0 : e0 ≠ 0 := by rw [he0]; unfold failE; split <;> omega
    have hres : rdRes b h s d l n p er = ([], p, e0) := by
      rw [he0]; unfold failE
      by_cases h1 : er = 0
      · subst h1; rw [if_pos rfl]; exact rdRes_arg (by by_cases h2 : n < 0; exact .inl h2; exact .inr (fun h3 => hgood ⟨rfl, by omega, h3⟩))
      · rw [if_neg h1]; exact rdRes_er h1
    have HF0 : Hid (∀ w', CurOk w' g l p e0 → w.grownBy w' (some g) → RdPost w g b h s d l n p er (.returned (.slice none 0 0)) w') := Lib.hid (fun w' h1 h2 => ⟨none, 0, 0, rfl, by rw [hres]; rfl, by omega, by rw [hres]; exact Own.nil, by rw [hres]; exact h1, h2⟩)
    have HNE := Lib.hid hne0
    have HE0 := Lib.hid he0
    clear hres hne0 he0
    by_cases hn : n < 0
    · clear hgood
      have hcA := hc.below (below_alloc w (.cells #[.int .i64 b, .int .i64 h, .int .i64 s, .int .i64 d] 23))
      have hgA := grownBy_of_below (some g) (below_alloc w (.cells #[.int .i64 b, .int .i64 h, .int .i64 s, .int .i64 d] 23))
      go_enter Try.func52, Try.ntmps52
      go_wp2_with fail
      refine (cFail_any g l p er 1 _ hcA).mono ?_
      rintro e w2 ⟨rfl, hcu2, hg2⟩
      rw [← HE0.out] at hcu2
      have HF := Lib.hid (HF0.out _ hcu2 (grownBy_trans hgA hg2))
      clear HF0 hcA hgA hg2 hc
      have hne' : (e0 == 0) = false := beq_eq_false_iff_ne.2 HNE.out
      have hne2 : (e0 != 0) = true := bne_iff_ne.2 HNE.out
      go_wp2
      go_loopw [7, 8] (fun x7 x8 wr => x7 = .slice none 0 0 ∧ x8 = .int .i64 0 ∧ wr = w2) (fun _ _ _ => 0)
      case atStart => exact ⟨rfl, rfl, rfl⟩
      case round =>
        obtain ⟨rfl, rfl, rfl⟩ := hrel
        go_wp2_with fail
        refine (cErr_any g l p e0 _ hcu2).mono ?_
        rintro e w' ⟨rfl, rfl⟩
        go_wp2_with fail
        refine (cErr_any g l p e0 _ hcu2).mono ?_
        rintro e w' ⟨rfl, rfl⟩
        go_wp2
        go_ret
        exact HF.out
    · by_cases hR : RightC b h s d
      · have her : er ≠ 0 := fun h1 => hgood ⟨h1, by omega, hR⟩
        have hD := Lib.hid (decide_eq_true hR)
        have HER : Hid (e0 = er) := Lib.hid (by rw [HE0.out]; exact if_neg her)
        clear hgood hR her
        go_enter Try.func52, Try.ntmps52
        go_wp2_with fail
        refine (bRight_any b h s d _ hb0 hh0 hs0 hd0).mono ?_
        rw [hD.out]
        rintro e w2 ⟨rfl, hB⟩
        obtain ⟨hblk, -, -, -, -, hB1⟩ := cod_cells hB
        have hcu2 := hc.below hB1
        rw [← HER.out] at hcu2
        have HF := Lib.hid (HF0.out _ hcu2 (grownBy_of_below (some g) hB1))
        clear HF0 hB hB1 hblk hc
        have hne' : (e0 == 0) = false := beq_eq_false_iff_ne.2 HNE.out
        have hne2 : (e0 != 0) = true := bne_iff_ne.2 HNE.out
        go_wp2
        go_loopw [7, 8] (fun x7 x8 wr => x7 = .slice none 0 0 ∧ x8 = .int .i64 0 ∧ wr = w2) (fun _ _ _ => 0)
        case atStart => exact ⟨rfl, rfl, rfl⟩
        case round =>
          obtain ⟨rfl, rfl, rfl⟩ := hrel
          go_wp2_with fail
          refine (cErr_any g l p e0 _ hcu2).mono ?_
          rintro e w' ⟨rfl, rfl⟩
          go_wp2_with fail
          refine (cErr_any g l p e0 _ hcu2).mono ?_
          rintro e w' ⟨rfl, rfl⟩
          go_wp2
          go_ret
          exact HF.out
      · have hD := Lib.hid (decide_eq_false hR)
        clear hgood hR
        go_enter Try.func52, Try.ntmps52
        go_wp2_with fail
        refine (bRight_any b h s d _ hb0 hh0 hs0 hd0).mono ?_
        rw [hD.out]
        rintro e w1 ⟨rfl, hB⟩
        obtain ⟨hblk, -, -, -, -, hB1⟩ := cod_cells hB
        have hcw := hc.below hB1
        go_wp2_with fail
        refine (cFail_any g l p er 1 _ hcw).mono ?_
        rintro e w2 ⟨rfl, hcu2, hg2⟩
        rw [← HE0.out] at hcu2
        have HF := Lib.hid (HF0.out _ hcu2 (grownBy_trans (grownBy_of_below (some g) hB1) hg2))
        clear HF0 hB hB1 hblk hc hcw hg2
        have hne' : (e0 == 0) = false := beq_eq_false_iff_ne.2 HNE.out
        have hne2 : (e0 != 0) = true := bne_iff_ne.2 HNE.out
        go_wp2
        go_loopw [7, 8] (fun x7 x8 wr => x7 = .slice none 0 0 ∧ x8 = .int .i64 0 ∧ wr = w2) (fun _ _ _ => 0)
        case atStart => exact ⟨rfl, rfl, rfl⟩
        case round =>
          obtain ⟨rfl, rfl, rfl⟩ := hrel
          go_wp2_with fail
          refine (cErr_any g l p e0 _ hcu2).mono ?_
          rintro e w' ⟨rfl, rfl⟩
          go_wp2_with fail
          refine (cErr_any g l p e0 _ hcu2).mono ?_
          rintro e w' ⟨rfl, rfl⟩
          go_wp2
          go_ret
          exact HF.out
end Go.Proofs.Ytnmdgmjheopolaa
