/- packsaddlelaw12.fixed. -/
import Derived.Test.YtbknkahakmfhkaaRecE
import Derived.Test.YtbknkahakmfhkaaRecD
import Derived.Test.YtbknkahakmfhkaaRecN
import Derived.Lib.SlBytesConst
namespace Go.Proofs.Ytbknkahakmfhkaa
open Go.RowKit
set_option linter.unusedVariables false
set_option linter.unusedSimpArgs false

theorem cEnd_done (g : Nat) (l : List UInt8) (p : Nat) (er : Int) (w : World) (h : CurOk w g l p er) (hp : p = l.length) :
  Calls Try.prog 25 #[.pointer (some ⟨g, 0, none⟩)] w fun e w' => e = .returned (.int .i64 er) ∧ ∃ k, w' = w.drewN k := by
  have hlt : ¬ p < l.length := by omega
  clear hp
  go_enter Try.func25, Try.ntmps25
  go_wp2_with fail
  refine (cLeft_any g l p er w h).mono ?_
  rintro e w' ⟨rfl, kd, rfl⟩
  have hd := h.drewN kd
  clear h
  go_wp2_with fail
  refine (cErr_any g l p er _ hd).mono ?_
  rintro e w' ⟨rfl, rfl⟩
  go_wp2
  go_ret
  exact ⟨rfl, kd, rfl⟩
def fixR : Rec := ⟨8, 0, 0, 0, 0, 3, ⟨#[97]⟩, 0⟩
def fixL : List UInt8 := [80, 75, 5, 7, 97, 97, 97, 97, 97, 97, 97, 97, 97, 97, 97, 97, 97, 97, 97, 97, 97, 97, 97, 97, 97, 97]
theorem fix_e1 : endP (endL 2 3 4) (0, 0) = ((2, 3, 4), (22, 0)) := by kernel_rfl
theorem fix_e2 : endP fixL (0, 0) = ((0, 0, 0), (22, 14)) := by kernel_rfl
theorem fix_e3 : localP (localL fixR true) (0, 0) = ((⟨8, 0, 0, 0, 0, 0, ⟨#[97]⟩, 0⟩, true), (31, 0)) := by kernel_rfl
theorem fix_e4 : (endL 0 0 0).length = 22 ∧ (endL 2 3 4).length = 22 ∧ (localL fixR true).length = 31 := by decide +kernel
theorem fix_e5 : (behindL ⟨8, 0, 0, 0, 0, 0, ⟨#[97]⟩, 0⟩).length = 16 := by decide +kernel
set_option maxHeartbeats 16000000 in
set_option maxRecDepth 100000 in
theorem fixed12_any (w : World) : Calls Try.prog 12 #[] w fun e w' => e = .returned (.bool true) ∧ Below w.heap.size w w' := by
  have hE1 := Lib.hid fix_e1
  have hE2 := Lib.hid fix_e2
  have hE3 := Lib.hid fix_e3
  have hE4 := Lib.hid fix_e4
  have hE5 := Lib.hid fix_e5
  go_enter Try.func12, Try.ntmps12
  go_wp2_with fail
  refine (cEnd12_any 2 3 4 w).mono ?_
  rintro e w1 ⟨v, rfl, ⟨a1, n1, c1, rfl, ho1⟩, hb1⟩
  have hl1 := ho1.len
  rw [hE4.out.2.1] at hl1
  go_wp2_with fail
  refine (cNew_any a1 n1 c1 (endL 2 3 4) w1 ho1.len (by omega) ho1.rd).mono ?_
  rintro e w2 ⟨g1, rfl, hg1, hcu1, hb2⟩
  have hB2 := hb1.trans (hb2.mono hb1.size)
  have hG1 : w.heap.size ≤ g1 := Nat.le_trans hb1.size hg1
  clear ho1 hb1 hb2 hl1
  go_wp2_with fail
  refine (cReadEnd_any g1 (endL 2 3 4) (0, 0) w2 hcu1).mono ?_
  rw [hE1.out]
  rintro e w3 ⟨rfl, hcu3, hgr3⟩
  have hB3 := hB2.grown hgr3 hB2.size (fun j hj => by simp only [Option.some.injEq] at hj; rw [← hj]; exact hG1)
  have kc := fun (w : World) (C : Array Value) (n c : Nat) => Lib.run_convert_bytes_const (P := Try.prog) w 29 5 C n c Try.underlying29 Try.underlying5
  clear hcu1 hgr3 hB2
  go_wp2_with fail
  refine (cNew_any _ 26 26 fixL _ rfl (by decide) (rd_new w3 _ _ _ _ rfl)).mono ?_
  rintro e w4 ⟨g2, rfl, hg2, hcu4, hb4⟩
  have hb4' := below_trans0 (below_alloc w3 (.cells (fixL.map bE).toArray 5 (26, 27))) (by simp) hb4
  have hB4 := hB3.trans (hb4'.mono hB3.size)
  have hc14 := hcu3.below hb4'
  have hG2 : g1 < g2 := by have h1 := hcu3.lt'; simp at hg2; omega
  clear kc hcu3 hb4 hb4' hg2 hB3
  go_wp2_with fail
  refine (cReadEnd_any g2 fixL (0, 0) w4 hcu4).mono ?_
  rw [hE2.out]
  rintro e w5 ⟨rfl, hcu5, hgr5⟩
  have hB5 := hB4.grown hgr5 hB4.size (fun j hj => by simp only [Option.some.injEq] at hj; omega)
  have hc15 := hc14.gs (Gs.of_grown hgr5) (by intro k hk; simp only [List.mem_singleton] at hk; omega)
  clear hcu4 hgr5 hB4 hc14
  go_wp2_with fail
  refine (cLocal_any fixR true w5 ⟨by decide, by decide, by decide⟩ (by decide)).mono ?_
  rintro e w6 ⟨v, rfl, ⟨a6, n6, c6, rfl, ho6⟩, hb6⟩
  have hl6 := ho6.len
  rw [hE4.out.2.2] at hl6
  have hB6 := hB5.trans (hb6.mono hB5.size)
  have hc16 := hc15.below hb6
  have hc26 := hcu5.below hb6
  clear hb6 hc15 hcu5 hB5
  go_wp2_with fail
  refine (cNew_any a6 n6 c6 (localL fixR true) w6 ho6.len (by omega) ho6.rd).mono ?_
  rintro e w7 ⟨g3, rfl, hg3, hcu7, hb7⟩
  have hB7 := hB6.trans (hb7.mono hB6.size)
  have hG3 : g1 < g3 ∧ g2 < g3 := by have h1 := hc16.lt'; have h2 := hc26.lt'; omega
  have hc17 := hc16.below hb7
  have hc27 := hc26.below hb7
  clear ho6 hb7 hl6 hc16 hc26 hB6 hg3
  go_wp2_with fail
  refine (cReadLocal_any g3 (localL fixR true) (0, 0) w7 hcu7).mono ?_
  rw [hE3.out]
  rintro e w8 ⟨rfl, hcu8, hgr8⟩
  have hB8 := hB7.grown hgr8 hB7.size (fun j hj => by simp only [Option.some.injEq] at hj; omega)
  have hc18 := hc17.gs (Gs.of_grown hgr8) (by intro k hk; simp only [List.mem_singleton] at hk; omega)
  have hc28 := hc27.gs (Gs.of_grown hgr8) (by intro k hk; simp only [List.mem_singleton] at hk; omega)
  clear hcu7 hgr8 hc17 hc27 hB7 hcu8
  simp only [Rec.arr]
  have hb9 := below_alloc w8 (.cells #[.int .i64 8, .int .u16 0, .int .u16 0, .int .u32 0, .int .i64 0, .int .i64 0, .string ⟨#[97]⟩, .int .i64 0] TR)
  have hk9 := Blk.new w8 TR #[.int .i64 8, .int .u16 0, .int .u16 0, .int .u32 0, .int .i64 0, .int .i64 0, .string ⟨#[97]⟩, .int .i64 0]
  have HC19 := Lib.hid (hc18.below hb9)
  have HC29 := Lib.hid (hc28.below hb9)
  have HB9 := Lib.hid (hB8.trans (hb9.mono hB8.size))
  have HK9 := Lib.hid hk9
  clear hb9 hk9 hc18 hc28 hB8
  go_wp2_with fail
  obtain ⟨o6, ho6⟩ : ∃ o, o = w8.heap.size := ⟨_, rfl⟩
  rw [← ho6] at HK9 ⊢
  clear ho6
  generalize w8.alloc (.cells #[.int .i64 8, .int .u16 0, .int .u16 0, .int .u32 0, .int .i64 0, .int .i64 0, .string ⟨#[97]⟩, .int .i64 0] TR) = w9 at HC19 HC29 HB9 HK9 ⊢
  refine (cEnd12_any 0 0 0 w9).mono ?_
  rintro e w10 ⟨v, rfl, ⟨a10, n10, c10, rfl, ho10⟩, hb10⟩
  have hn10 : n10 = 22 := by rw [← ho10.len, hE4.out.1]
  subst hn10
  have hB10 := HB9.out.trans (hb10.mono HB9.out.size)
  have hc110 := HC19.out.below hb10
  have hc210 := HC29.out.below hb10
  have hk10 := HK9.out.below hb10
  clear ho10 hb10 HC19 HC29 HB9 HK9
  go_wp2_with fail
  refine (cEnd_done g1 (endL 2 3 4) 22 0 w10 hc110 (by rw [hE4.out.2.1])).mono ?_
  rintro e w11 ⟨rfl, kd, rfl⟩
  have hc211 := hc210.drewN kd
  have hB11 : Below w.heap.size w (w10.drewN kd) := hB10.trans ⟨rfl, rfl, rfl, Nat.le_refl _, fun _ _ => rfl⟩
  have hk11 : Blk (w10.drewN kd) o6 TR #[.int .i64 8, .int .u16 0, .int .u16 0, .int .u32 0, .int .i64 0, .int .i64 0, .string ⟨#[97]⟩, .int .i64 0] := hk10
  clear hc110 hc210 hB10 hk10
  generalize w10.drewN kd = w11 at hc211 hB11 hk11 ⊢
  go_wp2_with fail
  refine (cErr_any g2 fixL 22 14 w11 hc211).mono ?_
  rintro e w12 ⟨rfl, rfl⟩
  have q0 := hk11.cell (i := 0) rfl
  have q1 := hk11.cell (i := 1) rfl
  have q2 := hk11.cell (i := 2) rfl
  have q3 := hk11.cell (i := 3) rfl
  have q4 := hk11.cell (i := 4) rfl
  have q5 := hk11.cell (i := 5) rfl
  have q6 := hk11.cell (i := 6) rfl
  have q7 := hk11.cell (i := 7) rfl
  clear hc211 hk11
  go_wp2_with fail
  refine (cBehind_any ⟨8, 0, 0, 0, 0, 0, ⟨#[97]⟩, 0⟩ w11 ⟨by decide, by decide, by decide⟩).mono ?_
  rintro e w13 ⟨v, rfl, ⟨a13, n13, c13, rfl, ho13⟩, hb13⟩
  have hn13 : n13 = 16 := by rw [← ho13.len, hE5.out]
  subst hn13
  have hB13 := hB11.trans (hb13.mono hB11.size)
  clear q0 q1 q2 q3 q4 q5 q6 q7 hB11 hb13 ho13
  go_wp2
  go_ret
  exact ⟨rfl, hB13⟩
end Go.Proofs.Ytbknkahakmfhkaa
