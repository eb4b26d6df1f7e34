/- The walks of cursor.Cursor's methods. -/
import Derived.Test.YtgcdeadfkljeaaaCurP
import Derived.Deep.QuietTactic
import Derived.BigQuiet
namespace Go.Proofs.Ytgcdeadfkljeaaa
open Go.RowKit
set_option linter.unusedVariables false
set_option linter.unusedSimpArgs false

/-- A cursor at block g: its bytes, its place, its error. -/
structure CurOk (w : World) (g : Nat) (l : List UInt8) (at' : Nat) (er : Int) : Prop where
  ex : ∃ (a : Option Addr) (n c : Nat), Blk w g 119 #[.slice a n c, .int .i64 (at' : Int), .int .i64 er] ∧ l.length = n ∧ n ≤ c ∧ (c ≤ 9223372036854775807 ∧ n ≤ 1000000000000) ∧ Rd w bE a l ∧ (∀ b off, a = some ⟨b, off, none⟩ → b < g) ∧ (a = none → c = 0) ∧ (∀ ad, a = some ad → ad.spot = none) ∧ at' ≤ n

theorem CurOk.drewN {w : World} {g : Nat} {l : List UInt8} {p : Nat} {er : Int} (h : CurOk w g l p er) (k : Nat) : CurOk (w.drewN k) g l p er := ⟨h.ex⟩
theorem CurOk.below {w w' : World} {g : Nat} {l : List UInt8} {p : Nat} {er : Int} (h : CurOk w g l p er) (hb : Below w.heap.size w w') : CurOk w' g l p er := by
  obtain ⟨a, n, c, h1, h2, h3, h4, h5, h6, h7⟩ := h.ex
  exact ⟨a, n, c, h1.below hb, h2, h3, h4, h5.below hb, h6, h7⟩
theorem below_drewN (w : World) (B k : Nat) : Below B w (w.drewN k) := ⟨rfl, rfl, rfl, Nat.le_refl _, fun _ _ => rfl⟩
set_option maxHeartbeats 1000000 in
theorem cErr_any (g : Nat) (l : List UInt8) (p : Nat) (er : Int) (w : World) (h : CurOk w g l p er) :
  Calls Try.prog 45 #[.pointer (some ⟨g, 0, none⟩)] w fun e w' => e = .returned (.int .i64 er) ∧ w = w' := by
  obtain ⟨a, n, c, hb, -⟩ := h.ex
  have h2 := hb.cell (i := 2) rfl
  clear h hb
  go_enter Try.func45, Try.ntmps45
  go_wp2
  go_ret
  exact ⟨rfl, rfl⟩
set_option maxHeartbeats 1000000 in
theorem cLeft_any (g : Nat) (l : List UInt8) (p : Nat) (er : Int) (w : World) (h : CurOk w g l p er) :
  Calls Try.prog 44 #[.pointer (some ⟨g, 0, none⟩)] w fun e w' => e = .returned (.int .i64 ((l.length : Int) - (p : Int))) ∧ ∃ k, w' = w.drewN k := by
  obtain ⟨a, n, c, hb, hl, hnc, hc, -, -, -, -, hp⟩ := h.ex
  have h1 := hb.cell (i := 1) rfl
  have h0 := hb.cell (i := 0) rfl
  have HL := Lib.hid hl
  clear h hb hl
  go_enter Try.func44, Try.ntmps44
  go_wp2
  go_quiet (fail)
  go_wp2
  go_ret
  exact ⟨ret_int (by rw [HL.out]), _, rfl⟩

def failE (er x : Int) : Int := if er = 0 then x else er
set_option maxHeartbeats 1000000 in
theorem cFail_any (g : Nat) (l : List UInt8) (p : Nat) (er x : Int) (w : World) (h : CurOk w g l p er) :
  Calls Try.prog 97 #[.pointer (some ⟨g, 0, none⟩), .int .i64 x] w fun e w' => e = .returned (.tuple #[]) ∧ CurOk w' g l p (failE er x) ∧ w.grownBy w' (some g) := by
  obtain ⟨a, n, c, hb, hl, hnc, hc, hr, hne, hn, hsp, hp⟩ := h.ex
  have h2 := hb.cell (i := 2) rfl
  have hf := hb.frozen 2
  by_cases he : er = 0
  · subst he
    have hb' := hb.setCell 2 (.int .i64 x)
    have hg := grownBy_setCell w ⟨g, 2, none⟩ (.int .i64 x)
    have hr' := hr.grown hg (fun b off hb he => by have := hne b off hb; simp at he; omega)
    have hfin : CurOk (w.setCell ⟨g, 2, none⟩ (.int .i64 x)) g l p (failE 0 x) := ⟨a, n, c, hb', hl, hnc, hc, hr', hne, hn, hsp, hp⟩
    have HF := Lib.hid hfin
    have HG := Lib.hid hg
    clear h hb hb' hl hr hr' hne hn hfin hg hsp
    go_enter Try.func97, Try.ntmps97
    go_wp2
    go_end0
    exact ⟨rfl, HF.out, HG.out⟩
  · have hfin : failE er x = er := if_neg he
    have he' : (er == 0) = false := by simpa using he
    rw [hfin]
    clear hb hl hr hne hn he hfin hsp
    go_enter Try.func97, Try.ntmps97
    go_wp2
    go_end0
    exact ⟨rfl, h, World.grownBy.refl _ _⟩

def nextEr (n p : Nat) (er m : Int) (sz : Bool) : Int := if er ≠ 0 then er else if m < 0 ∨ sz = false then 1 else if m > (n : Int) - p then 6 else 0
def nextOk (n p : Nat) (er m : Int) (sz : Bool) : Bool := decide (er = 0 ∧ 0 ≤ m ∧ sz = true ∧ m ≤ (n : Int) - p)
def nextAt (n p : Nat) (er m : Int) (sz : Bool) : Nat := if nextOk n p er m sz then p + m.toNat else p
def nextL (l : List UInt8) (p : Nat) (er m : Int) (sz : Bool) : List UInt8 := if nextOk l.length p er m sz then (l.drop p).take m.toNat else []

def NextPost (w : World) (g : Nat) (l : List UInt8) (p : Nat) (er m : Int) (sz : Bool) (e : Ending) (w' : World) : Prop :=
  ∃ a' k c', e = .returned (.slice a' k c') ∧ (nextL l p er m sz).length = k ∧ Rd w' bE a' (nextL l p er m sz) ∧ (∀ b off, a' = some ⟨b, off, none⟩ → b ≠ g) ∧ CurOk w' g l (nextAt l.length p er m sz) (nextEr l.length p er m sz) ∧ w.grownBy w' (some g)
set_option maxRecDepth 100000 in
set_option maxHeartbeats 4000000 in
theorem cNext_any (g : Nat) (l : List UInt8) (p : Nat) (er m : Int) (sz : Bool) (w : World) (h : CurOk w g l p er) (hm1 : -9223372036854775808 ≤ m) (hm2 : m ≤ 9223372036854775807) :
  Calls Try.prog 104 #[.pointer (some ⟨g, 0, none⟩), .int .i64 m, .bool sz] w (NextPost w g l p er m sz) := by
  by_cases he : er = 0
  · subst he
    by_cases hbad : m < 0 ∨ sz = false
    · have hok : nextOk l.length p 0 m sz = false := by
        unfold nextOk; simp only [decide_eq_false_iff_not]
        rintro ⟨_, h1, h2, _⟩
        rcases hbad with h | h
        · omega
        · rw [h] at h2; cases h2
      have e1 : nextL l p 0 m sz = [] := by unfold nextL; rw [hok]; rfl
      have e2 : nextAt l.length p 0 m sz = p := by unfold nextAt; rw [hok]; rfl
      have e3 : nextEr l.length p 0 m sz = failE 0 1 := by unfold nextEr; simp [hbad, failE]
      have E1 := Lib.hid e1
      have E2 := Lib.hid e2
      have E3 := Lib.hid e3
      clear hok e1 e2 e3
      by_cases hneg : m < 0
      · clear hbad
        go_enter Try.func104, Try.ntmps104
        go_wp2_with fail
        refine (cErr_any g l p 0 w h).mono ?_
        rintro e w' ⟨rfl, rfl⟩
        go_wp2_with fail
        refine (cFail_any g l p 0 1 w h).mono ?_
        rintro e w' ⟨rfl, hc, hg⟩
        go_wp2
        go_ret
        exact ⟨_, _, _, rfl, by rw [E1.out]; rfl, by rw [E1.out]; exact Rd.nil, fun _ _ h => by (cases h), by rw [E2.out, E3.out]; exact hc, hg⟩
      · have hsz : sz = false := by rcases hbad with h | h; exact absurd h hneg; exact h
        subst hsz
        clear hbad
        go_enter Try.func104, Try.ntmps104
        go_wp2_with fail
        refine (cErr_any g l p 0 w h).mono ?_
        rintro e w' ⟨rfl, rfl⟩
        go_wp2_with fail
        refine (cFail_any g l p 0 1 w h).mono ?_
        rintro e w' ⟨rfl, hc, hg⟩
        go_wp2
        go_ret
        exact ⟨_, _, _, rfl, by rw [E1.out]; rfl, by rw [E1.out]; exact Rd.nil, fun _ _ h => by (cases h), by rw [E2.out, E3.out]; exact hc, hg⟩
    · have hm0 : 0 ≤ m := by omega
      have hsz : sz = true := by cases sz; exact absurd (Or.inr rfl) hbad; rfl
      subst hsz
      clear hbad
      by_cases hlong : m > (l.length : Int) - p
      · have hok : nextOk l.length p 0 m true = false := by
          unfold nextOk; simp only [decide_eq_false_iff_not]
          rintro ⟨_, _, _, h4⟩; omega
        have e1 : nextL l p 0 m true = [] := by unfold nextL; rw [hok]; rfl
        have e2 : nextAt l.length p 0 m true = p := by unfold nextAt; rw [hok]; rfl
        have e3 : nextEr l.length p 0 m true = failE 0 6 := by
          unfold nextEr; rw [if_neg (by simp), if_neg (by simp; omega), if_pos hlong]; rfl
        have E1 := Lib.hid e1
        have E2 := Lib.hid e2
        have E3 := Lib.hid e3
        clear hok e1 e2 e3
        go_enter Try.func104, Try.ntmps104
        go_wp2_with fail
        refine (cErr_any g l p 0 w h).mono ?_
        rintro e w' ⟨rfl, rfl⟩
        go_wp2_with fail
        refine (cLeft_any g l p 0 w h).mono ?_
        rintro e w' ⟨rfl, kd, rfl⟩
        have hd := h.drewN kd
        go_wp2_with fail
        refine (cFail_any g l p 0 6 _ hd).mono ?_
        rintro e w' ⟨rfl, hc, hg⟩
        have hg := grownBy_trans (grownBy_of_below (some g) (below_drewN w w.heap.size kd)) hg
        go_wp2
        go_ret
        exact ⟨_, _, _, rfl, by rw [E1.out]; rfl, by rw [E1.out]; exact Rd.nil, fun _ _ h => by (cases h), by rw [E2.out, E3.out]; exact hc, hg⟩
      · obtain ⟨k, rfl⟩ := Int.eq_ofNat_of_zero_le hm0
        have hok : nextOk l.length p 0 k true = true := by
          unfold nextOk; simp only [decide_eq_true_eq]
          refine ⟨?_, ?_, ?_, ?_⟩ <;> first | trivial | omega
        have e1 : nextL l p 0 k true = (l.drop p).take k := by unfold nextL; rw [hok]; simp
        have e2 : nextAt l.length p 0 k true = p + k := by unfold nextAt; rw [hok]; simp
        have e3 : nextEr l.length p 0 k true = 0 := by
          unfold nextEr; rw [if_neg (by simp), if_neg (by simp), if_neg hlong]
        have E1 := Lib.hid e1
        have E2 := Lib.hid e2
        have E3 := Lib.hid e3
        clear hok e1 e2 e3
        have hex := h.ex
        obtain ⟨a, n, c, hb, hl, hnc, hc, hr, hne, hnn, hsp, hp⟩ := hex
        have hk : p + k ≤ n := by rw [← hl]; omega
        have hBD := grownBy_of_below (some g) (below_drewN w w.heap.size 0)
        clear hBD
        cases a with
        | none =>
          have h0l : l = [] := by rcases hr with h | ⟨b, off, h, _⟩; exact h; cases h
          subst h0l
          have hn0 : n = 0 := by simpa using hl.symm
          subst hn0
          have hp0 : p = 0 := by omega
          have hk0 : k = 0 := by omega
          subst hp0 hk0
          have hc0 := hnn rfl
          subst hc0
          have h1 := hb.cell (i := 1) rfl
          have h0 := hb.cell (i := 0) rfl
          have hf := hb.frozen 1
          have hfin : ∀ kd, CurOk ((w.drewN kd).setCell ⟨g, 1, none⟩ (.int .i64 0)) g [] 0 0 := fun kd =>
            ⟨none, 0, 0, Blk.setCell (w := w.drewN kd) hb 1 (.int .i64 0), rfl, Nat.le_refl _, ⟨by omega, by omega⟩, Rd.nil, fun _ _ h => by (cases h), fun _ => rfl, fun _ h => by (cases h), Nat.le_refl _⟩
          have hgr : ∀ kd, w.grownBy ((w.drewN kd).setCell ⟨g, 1, none⟩ (.int .i64 0)) (some g) := fun kd =>
            grownBy_trans (grownBy_of_below (some g) (below_drewN w w.heap.size kd)) (grownBy_setCell _ ⟨g, 1, none⟩ _)
          have HF := Lib.hid hfin
          have HG := Lib.hid hgr
          clear hfin hgr hl hlong hne hnn hsp hr
          go_enter Try.func104, Try.ntmps104
          go_wp2_with fail
          refine (cErr_any g [] 0 0 w h).mono ?_
          rintro e w' ⟨rfl, rfl⟩
          go_wp2_with fail
          refine (cLeft_any g [] 0 0 w h).mono ?_
          rintro e w' ⟨rfl, kd, rfl⟩
          go_wp2_with fail
          go_quiet (fail)
          go_wp2
          go_ret
          refine ⟨none, 0, 0, rfl, by rw [E1.out]; rfl, by rw [E1.out]; exact Rd.nil, fun _ _ h => by (cases h), by rw [E2.out, E3.out]; exact (HF.out kd).drewN nq, ?_⟩
          exact grownBy_trans (HG.out kd) (grownBy_of_below _ (below_drewN _ _ nq))
        | some ad =>
          obtain ⟨b, off, spot⟩ := ad
          have hspot : spot = none := hsp _ rfl
          subst hspot
          have hsub := (hr.drop p).take k
          have hbg := (hne b off rfl)
          have h1 := hb.cell (i := 1) rfl
          have h0 := hb.cell (i := 0) rfl
          have hf := hb.frozen 1
          have hgr : ∀ kd, w.grownBy ((w.drewN kd).setCell ⟨g, 1, none⟩ (.int .i64 ((p : Int) + (k : Int)))) (some g) := fun kd =>
            grownBy_trans (grownBy_of_below (some g) (below_drewN w w.heap.size kd)) (grownBy_setCell _ ⟨g, 1, none⟩ _)
          have hrd : ∀ kd, Rd ((w.drewN kd).setCell ⟨g, 1, none⟩ (.int .i64 ((p : Int) + (k : Int)))) bE (some ⟨b, off, none⟩) l := fun kd =>
            hr.grown (hgr kd) (fun g' off' h => by simp at h; simp; omega)
          have hrd2 : ∀ kd, Rd ((w.drewN kd).setCell ⟨g, 1, none⟩ (.int .i64 ((p : Int) + (k : Int)))) bE (some ⟨b, off + p, none⟩) ((l.drop p).take k) := fun kd =>
            hsub.grown (hgr kd) (fun g' off' h => by simp at h; simp; omega)
          have hfin : ∀ kd, CurOk ((w.drewN kd).setCell ⟨g, 1, none⟩ (.int .i64 ((p : Int) + (k : Int)))) g l (p + k) 0 := fun kd =>
            ⟨some ⟨b, off, none⟩, n, c, by
              have := Blk.setCell (w := w.drewN kd) hb 1 (.int .i64 ((p : Int) + (k : Int)))
              simpa using this, hl, hnc, hc, hrd kd, fun b' off' h => by
              simp at h
              obtain ⟨rfl, rfl⟩ := h
              exact hbg, fun h => by (cases h), fun ad h => by (simp at h; subst h; rfl), hk⟩
          have hlen : ((l.drop p).take k).length = k := by rw [List.length_take, List.length_drop]; omega
          have HF := Lib.hid hfin
          have HG := Lib.hid hgr
          have HR2 := Lib.hid hrd2
          have HLEN := Lib.hid hlen
          have hlk : decide ((l.length : Int) - (p : Int) < (k : Int)) = false := by simp; omega
          have hlk2 : (p : Int) + (k : Int) ≤ 1000000000000 := by omega
          have hlk3 : (p : Int) + (k : Int) ≤ (c : Int) := by omega
          have HL := Lib.hid hl
          clear hfin hgr hl hlong hne hnn hsp hr hsub hrd hrd2 hlen
          go_enter Try.func104, Try.ntmps104
          go_wp2_with fail
          refine (cErr_any g l p 0 w h).mono ?_
          rintro e w' ⟨rfl, rfl⟩
          go_wp2_with fail
          refine (cLeft_any g l p 0 w h).mono ?_
          rintro e w' ⟨rfl, kd, rfl⟩
          go_wp2_with fail
          have s1 : IntKind.i64.wrap (p : Int) = (p : Int) := IntWalk.i64_in _ (by omega)
          have s2 : (p : Int) ≤ (p : Int) + (k : Int) := by omega
          have s3 : ((p : Int) + (k : Int)).toNat = p + k := by omega
          have s4 : 0 ≤ (p : Int) + (k : Int) := by omega
          go_quiet (fail)
          clear s1 s2 s3 s4
          go_wp2
          all_goals go_ret
          · have hk0 : k = 0 := by omega
            refine ⟨_, _, _, rfl, by rw [E1.out]; exact HLEN.out, by rw [E1.out, hk0]; exact .inl (by simp), fun b' off' h => by simp at h; omega, by rw [E2.out, E3.out]; exact (HF.out kd).drewN nq, grownBy_trans (HG.out kd) (grownBy_of_below _ (below_drewN _ _ nq))⟩
          · refine ⟨_, _, _, rfl, by rw [E1.out]; exact HLEN.out, by rw [E1.out]; exact HR2.out kd, fun b' off' h => by simp at h; omega, by rw [E2.out, E3.out]; exact (HF.out kd).drewN nq, grownBy_trans (HG.out kd) (grownBy_of_below _ (below_drewN _ _ nq))⟩
  · have hok : nextOk l.length p er m sz = false := by
      unfold nextOk; simp only [decide_eq_false_iff_not]
      rintro ⟨h, _⟩; exact he h
    have e1 : nextL l p er m sz = [] := by unfold nextL; rw [hok]; rfl
    have e2 : nextAt l.length p er m sz = p := by unfold nextAt; rw [hok]; rfl
    have e3 : nextEr l.length p er m sz = er := by unfold nextEr; rw [if_pos he]
    have E1 := Lib.hid e1
    have E2 := Lib.hid e2
    have E3 := Lib.hid e3
    have he2 : (er != 0) = true := by simpa using he
    clear hok e1 e2 e3 he
    go_enter Try.func104, Try.ntmps104
    go_wp2_with fail
    refine (cErr_any g l p er w h).mono ?_
    rintro e w' ⟨rfl, rfl⟩
    go_wp2
    go_ret
    exact ⟨_, _, _, rfl, by rw [E1.out]; rfl, by rw [E1.out]; exact Rd.nil, fun _ _ h => by (cases h), by rw [E2.out, E3.out]; exact h, World.grownBy.refl _ _⟩

theorem nextL_le (l : List UInt8) (p : Nat) (er m : Int) (h : sizedB m = true) : (nextL l p er m (sizedB m)).length ≤ 8 := by
  unfold nextL
  split
  · rcases sizedB_cases m h with rfl | rfl | rfl | rfl <;> simp <;> omega
  · simp
theorem nextL_le' (l : List UInt8) (p : Nat) (er m : Int) : (nextL l p er m (sizedB m)).length ≤ 8 := by
  cases h : sizedB m with
  | true => have := nextL_le l p er m h; rw [h] at this; exact this
  | false => unfold nextL nextOk; simp

theorem nextL_len (l : List UInt8) (p : Nat) (er m : Int) (sz : Bool) : (nextL l p er m sz).length ≤ l.length := by
  unfold nextL; split
  · simp; omega
  · simp
theorem CurOk.len {w : World} {g : Nat} {l : List UInt8} {p : Nat} {er : Int} (h : CurOk w g l p er) : l.length ≤ 1000000000000 := by
  obtain ⟨a, n, c, _, h2, h3, h4, _⟩ := h.ex
  omega
def NumPost (w : World) (g : Nat) (l : List UInt8) (p : Nat) (er m : Int) (v : Int) (e : Ending) (w' : World) : Prop :=
  e = .returned (.int .u64 v) ∧ CurOk w' g l (nextAt l.length p er m (sizedB m)) (nextEr l.length p er m (sizedB m)) ∧ w.grownBy w' (some g)

def litI (v : Int) (x : UInt8) (j : Nat) : Int := bits .or .u64 v ((x.toNat : Int) * 2 ^ (8 * j) % 18446744073709551616)
def litR (l : List UInt8) : Nat → Int
  | 0 => 0
  | j+1 => litI (litR l j) (l.getD j 0) j
theorem litR_range (l : List UInt8) (j : Nat) : 0 ≤ litR l j ∧ litR l j < 18446744073709551616 := by
  cases j with
  | zero => simp [litR]
  | succ j =>
    rw [litR, litI]
    generalize (((l.getD j 0).toNat : Int) * 2 ^ (8 * j) % 18446744073709551616) = y
    exact bits_range_u64 _ _ _

theorem CurOk.place {w : World} {g : Nat} {l : List UInt8} {p : Nat} {er : Int} (h : CurOk w g l p er) : p ≤ l.length := by
  obtain ⟨a, n, c, _, h2, h3, h4, _, _, _, _, h5⟩ := h.ex
  omega
set_option maxHeartbeats 1000000 in
theorem cNew_any (a : Option Addr) (n c : Nat) (l : List UInt8) (w : World) (hl : l.length = n) (hn : n ≤ 1000000000000) (hr : Rd w bE a l) :
  Calls Try.prog 42 #[.slice a n c] w fun e w' => ∃ g, e = .returned (.pointer (some ⟨g, 0, none⟩)) ∧ w.heap.size ≤ g ∧ CurOk w' g l 0 0 ∧ Below w.heap.size w w' := by
  go_enter Try.func42, Try.ntmps42
  go_wp2_with fail
  refine (clone_any a n c l w hl (by omega) hr).mono ?_
  rintro e w1 ⟨a1, c1, rfl, hown1, hB1⟩
  have hcap := hown1.cap_max
  unfold maxLen at hcap
  have hsz := hB1.size
  have hfin : CurOk (w1.alloc (.cells #[.slice a1 n c1, .int .i64 0, .int .i64 0] 119)) w1.heap.size l 0 0 := by
    constructor
    refine ⟨a1, n, c1, Blk.new _ _ _, hl, hown1.le_cap, ⟨by omega, hn⟩, hown1.rd.below (below_alloc _ _), ?_, ?_, ?_, Nat.zero_le _⟩
    · intro b off h
      rcases hown1.blk with ⟨h2, _⟩ | ⟨q, h2, _, hlt⟩
      · rw [h2] at h; cases h
      · rw [h2] at h; simp at h; omega
    · intro h
      rcases hown1.blk with ⟨h2, _, h3⟩ | ⟨q, h2, _⟩
      · exact h3
      · rw [h2] at h; cases h
    · intro ad h
      rcases hown1.blk with ⟨h2, _⟩ | ⟨q, h2, _⟩
      · rw [h2] at h; cases h
      · rw [h2] at h; simp at h; subst h; rfl
  have HF := Lib.hid hfin
  clear hfin hown1
  go_wp2
  go_ret
  exact ⟨_, rfl, hsz, HF.out, hB1.alloc hsz _⟩
end Go.Proofs.Ytgcdeadfkljeaaa
/- Plain laws: numbers of bytes, the lowest first. -/
namespace Go.Proofs.Ytgcdeadfkljeaaa
open Go.RowKit
set_option linter.unusedVariables false
set_option linter.unusedSimpArgs false

theorem or64_add' (a b k : Nat) (ha : a * 2 ^ k < 18446744073709551616) (hb : b < 2 ^ k) (hb2 : b < 18446744073709551616) : bits .or .u64 (b : Int) ((a * 2 ^ k : Nat) : Int) = ((a * 2 ^ k + b : Nat) : Int) := by
  rw [u64_or_nat _ _ hb2 ha, Nat.or_comm, Nat.mul_comm, Nat.two_pow_add_eq_or_of_lt hb a]
theorem litI_nat (a : Nat) (x : UInt8) (j : Nat) (hj : j < 8) (ha : a < 256 ^ j) : litI (a : Int) x j = ((x.toNat * 256 ^ j + a : Nat) : Int) := by
  have hx := x.toNat_lt
  have e : (256 : Nat) ^ j = 2 ^ (8 * j) := by rw [Nat.pow_mul]
  have h1 : 256 ^ j * 256 ≤ 256 ^ 8 := by rw [← Nat.pow_succ]; exact Nat.pow_le_pow_right (by omega) (by omega)
  have h2 : x.toNat * 256 ^ j < 18446744073709551616 := by
    have : x.toNat * 256 ^ j < 256 * 256 ^ j := Nat.mul_lt_mul_of_pos_right hx (Nat.pow_pos (by omega))
    omega
  rw [e] at ha h2 ⊢
  rw [e] at h1
  have := or64_add' x.toNat a (8 * j) h2 ha (by omega)
  rw [← this, litI]
  congr 1
  have e5 : (x.toNat : Int) * 2 ^ (8 * j) = ((x.toNat * 2 ^ (8 * j) : Nat) : Int) := by push_cast; rfl
  rw [e5, Int.emod_eq_of_lt (Int.natCast_nonneg _) (by generalize x.toNat * 2 ^ (8 * j) = y at h2 ⊢; omega)]
/-- The number of the first j bytes, the lowest first. -/
def numLE (l : List UInt8) : Nat → Nat
  | 0 => 0
  | j+1 => (l.getD j 0).toNat * 256 ^ j + numLE l j
theorem numLE_lt (l : List UInt8) (j : Nat) : numLE l j < 256 ^ j := by
  induction j with
  | zero => simp [numLE]
  | succ j ih =>
    have hx := (l.getD j 0).toNat_lt
    have : (l.getD j 0).toNat * 256 ^ j ≤ 255 * 256 ^ j := Nat.mul_le_mul_right _ (by omega)
    rw [numLE, Nat.pow_succ]
    omega
theorem litR_num (l : List UInt8) (j : Nat) (hj : j ≤ 8) : litR l j = ((numLE l j : Nat) : Int) := by
  induction j with
  | zero => rfl
  | succ j ih => rw [litR, ih (by omega), litI_nat _ _ _ (by omega) (numLE_lt l j)]; rfl
theorem numLE_digit (l : List UInt8) (n i : Nat) (hi : i < n) : numLE l n / 256 ^ i % 256 = (l.getD i 0).toNat := by
  induction n with
  | zero => omega
  | succ n ih =>
    have hx := (l.getD n 0).toNat_lt
    have hlt := numLE_lt l n
    rw [numLE]
    by_cases h : i = n
    · subst h
      rw [Nat.add_comm, Nat.add_mul_div_right _ _ (Nat.pow_pos (by omega)), Nat.div_eq_of_lt hlt, Nat.zero_add, Nat.mod_eq_of_lt (by omega)]
    · rw [← ih (by omega)]
      have e : 256 ^ n = 256 ^ (n - i - 1) * 256 * 256 ^ i := by
        rw [← Nat.pow_succ, ← Nat.pow_add]; congr 1; omega
      rw [e, ← Nat.mul_assoc, Nat.add_comm, Nat.add_mul_div_right _ _ (Nat.pow_pos (by omega)), ← Nat.mul_assoc, Nat.add_mul_mod_self_right]
theorem littleL_num (l : List UInt8) : littleL (numLE l l.length) l.length = l := by
  apply List.ext_getElem
  · simp [littleL]
  · intro i h1 h2
    simp only [littleL, List.getElem_map, List.getElem_range]
    rw [numLE_digit l _ i h2]
    simp [List.getD, h2]
theorem littleL_num4 (l : List UInt8) (h : l.length = 4) : littleL (numLE l 4) 4 = l := by
  have := littleL_num l
  rwa [h] at this
theorem numLE_little (v n j : Nat) (hj : j ≤ n) : numLE (littleL v n) j = v % 256 ^ j := by
  induction j with
  | zero => simp [numLE, Nat.mod_one]
  | succ j ih =>
    have hg : (littleL v n).getD j 0 = UInt8.ofNat (v / 256 ^ j % 256) := by simp [littleL, List.getD, show j < n by omega]
    rw [numLE, hg, byte_toNat, ih (by omega), Nat.pow_succ, Nat.mod_mul]
    rw [Nat.mul_comm]; omega
theorem putL4 (v : Nat) : putL v 4 = littleL v 4 := by simp [putL, sizedB]
end Go.Proofs.Ytgcdeadfkljeaaa
