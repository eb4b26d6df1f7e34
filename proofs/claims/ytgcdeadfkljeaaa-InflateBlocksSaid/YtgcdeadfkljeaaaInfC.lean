/- inflate: Length, Distance. -/
import Derived.Test.YtgcdeadfkljeaaaInfB
import Derived.Test.YtgcdeadfkljeaaaAppA
namespace Go.Proofs.Ytgcdeadfkljeaaa
open Go.RowKit
set_option linter.unusedVariables false
set_option linter.unusedSimpArgs false

/-- The least length of a sign, and the bits that are added. -/
def lenK (x : Int) : Int × Int × Bool := if x < 257 ∨ 286 ≤ x then (0, 0, false) else if x = 285 then (258, 0, true) else if x < 265 then (x - 254, 0, true) else ((4 + (x - 257) % 4) * 2 ^ ((x - 257) / 4 - 1).toNat + 3, (x - 257) / 4 - 1, true)
def disK (x : Int) : Int × Int × Bool := if x < 0 ∨ 30 ≤ x then (0, 0, false) else if x < 4 then (x + 1, 0, true) else ((2 + x % 2) * 2 ^ (x / 2 - 1).toNat + 1, x / 2 - 1, true)
def SigP (r : Int × Int × Bool) (w : World) (e : Ending) (w' : World) : Prop := e = .returned (.tuple #[.int .i64 r.1, .int .i64 r.2.1, .bool r.2.2]) ∧ w' = w
theorem go_ret3_results {fn : Func} {a b c : Tmp} (h : fn.results = #[.tmp a, .tmp b, .tmp c]) (tmps : Array Value) (w : World) (P : Program) : (results fn tmps).run P w = .ok (.tuple #[tmps.getD a undef, tmps.getD b undef, tmps.getD c undef]) w := by
  simp [results, h]
set_option maxRecDepth 100000 in
set_option maxHeartbeats 16000000 in
theorem length_any (x : Int) (w : World) (hx : -9223372036854775808 ≤ x ∧ x ≤ 9223372036854775807) : Calls Try.prog 14 #[.int .i64 x] w (SigP (lenK x) w) := by
  by_cases h1 : x < 257
  · have HV : Hid (lenK x = (0, 0, false)) := Lib.hid (by unfold lenK; rw [if_pos (.inl h1)])
    rw [HV.out]
    go_enter Try.func14, Try.ntmps14
    go_wp2
    refine bodyPost_ret (go_ret3_results rfl _ _ _) rfl ?_
    exact ⟨by first | rfl | kernel_rfl, rfl⟩
  by_cases h2 : 286 ≤ x
  · have HV : Hid (lenK x = (0, 0, false)) := Lib.hid (by unfold lenK; rw [if_pos (.inr h2)])
    have gs : IntKind.i64.wrap (x - 257) = x - 257 := IntWalk.i64_in _ (by omega)
    rw [HV.out]
    go_enter Try.func14, Try.ntmps14
    go_wp2
    refine bodyPost_ret (go_ret3_results rfl _ _ _) rfl ?_
    exact ⟨by first | rfl | kernel_rfl, rfl⟩
  by_cases h4 : x < 265
  · have HV : Hid (lenK x = (x - 254, 0, true)) := Lib.hid (by unfold lenK; rw [if_neg (by omega), if_neg (by omega), if_pos h4])
    rw [HV.out]
    have gs : IntKind.i64.wrap (x - 257) = x - 257 := IntWalk.i64_in _ (by omega)
    have gs2 : IntKind.i64.wrap (x - 257 + 3) = x - 254 := by rw [IntWalk.i64_in _ (by omega)]; omega
    have g5 : (x == 285) = false := by simp; omega
    have g6 : ¬ 286 ≤ x := h2
    have g7 : x - 257 < 8 := by omega
    go_enter Try.func14, Try.ntmps14
    go_wp2
    refine bodyPost_ret (go_ret3_results rfl _ _ _) rfl ?_
    exact ⟨by first | rfl | kernel_rfl, rfl⟩
  have hc : x = 265 ∨ x = 266 ∨ x = 267 ∨ x = 268 ∨ x = 269 ∨ x = 270 ∨ x = 271 ∨ x = 272 ∨ x = 273 ∨ x = 274 ∨ x = 275 ∨ x = 276 ∨ x = 277 ∨ x = 278 ∨ x = 279 ∨ x = 280 ∨ x = 281 ∨ x = 282 ∨ x = 283 ∨ x = 284 ∨ x = 285 := by omega
  clear h1 h2 h4 hx
  rcases hc with rfl | rfl | rfl | rfl | rfl | rfl | rfl | rfl | rfl | rfl | rfl | rfl | rfl | rfl | rfl | rfl | rfl | rfl | rfl | rfl | rfl
  all_goals
    go_enter Try.func14, Try.ntmps14
    go_wp2
    refine bodyPost_ret (go_ret3_results rfl _ _ _) rfl ?_
    exact ⟨by first | rfl | kernel_rfl, rfl⟩
set_option maxRecDepth 100000 in
set_option maxHeartbeats 16000000 in
theorem distance_any (x : Int) (w : World) (hx : -9223372036854775808 ≤ x ∧ x ≤ 9223372036854775807) : Calls Try.prog 16 #[.int .i64 x] w (SigP (disK x) w) := by
  by_cases h1 : x < 0
  · have HV : Hid (disK x = (0, 0, false)) := Lib.hid (by unfold disK; rw [if_pos (.inl h1)])
    rw [HV.out]
    go_enter Try.func16, Try.ntmps16
    go_wp2
    refine bodyPost_ret (go_ret3_results rfl _ _ _) rfl ?_
    exact ⟨by first | rfl | kernel_rfl, rfl⟩
  by_cases h2 : 30 ≤ x
  · have HV : Hid (disK x = (0, 0, false)) := Lib.hid (by unfold disK; rw [if_pos (.inr h2)])
    rw [HV.out]
    go_enter Try.func16, Try.ntmps16
    go_wp2
    refine bodyPost_ret (go_ret3_results rfl _ _ _) rfl ?_
    exact ⟨by first | rfl | kernel_rfl, rfl⟩
  have hc : x = 0 ∨ x = 1 ∨ x = 2 ∨ x = 3 ∨ x = 4 ∨ x = 5 ∨ x = 6 ∨ x = 7 ∨ x = 8 ∨ x = 9 ∨ x = 10 ∨ x = 11 ∨ x = 12 ∨ x = 13 ∨ x = 14 ∨ x = 15 ∨ x = 16 ∨ x = 17 ∨ x = 18 ∨ x = 19 ∨ x = 20 ∨ x = 21 ∨ x = 22 ∨ x = 23 ∨ x = 24 ∨ x = 25 ∨ x = 26 ∨ x = 27 ∨ x = 28 ∨ x = 29 := by omega
  clear h1 h2 hx
  rcases hc with rfl | rfl | rfl | rfl | rfl | rfl | rfl | rfl | rfl | rfl | rfl | rfl | rfl | rfl | rfl | rfl | rfl | rfl | rfl | rfl | rfl | rfl | rfl | rfl | rfl | rfl | rfl | rfl | rfl | rfl
  all_goals
    go_enter Try.func16, Try.ntmps16
    go_wp2
    refine bodyPost_ret (go_ret3_results rfl _ _ _) rfl ?_
    exact ⟨by first | rfl | kernel_rfl, rfl⟩
end Go.Proofs.Ytgcdeadfkljeaaa
/- inflate.state: a byte pushed; copy. -/
namespace Go.Proofs.Ytgcdeadfkljeaaa
open Go.RowKit
set_option linter.unusedVariables false
set_option linter.unusedSimpArgs false

theorem decG_ok {l : List Int} {B : List Bool} : ∀ {k n word : Nat}, (decG l B k n word).2.1 = 0 → n < (decG l B k n word).2.2 ∧ (decG l B k n word).2.2 ≤ B.length
  | 0, n, word, h => by simp [decG] at h
  | k + 1, n, word, h => by
    unfold decG at h ⊢
    cases hb : B[n]? with
    | none => rw [hb] at h; simp at h
    | some b =>
      rw [hb] at h
      have hn := (List.getElem?_eq_some_iff.1 hb).1
      simp only at h ⊢
      split
      · simp only; omega
      · rename_i h2
        rw [if_neg h2] at h
        have := decG_ok h
        omega
theorem decG_er {l : List Int} {B : List Bool} : ∀ {k n word : Nat}, (decG l B k n word).2.1 ≠ 0 → (decG l B k n word).2.2 = 0 ∧ (decG l B k n word).1 = 0
  | 0, n, word, h => ⟨rfl, rfl⟩
  | k + 1, n, word, h => by
    unfold decG at h ⊢
    cases hb : B[n]? with
    | none => exact ⟨rfl, rfl⟩
    | some b =>
      rw [hb] at h
      simp only at h ⊢
      split
      · rename_i h2; rw [if_pos h2] at h; exact absurd rfl h
      · rename_i h2
        rw [if_neg h2] at h
        exact decG_er h
theorem decG_sign {l : List Int} {B : List Bool} : ∀ {k n word : Nat}, 0 ≤ (decG l B k n word).1 ∧ (decG l B k n word).1 ≤ (l.length : Int)
  | 0, n, word => by simp [decG]
  | k + 1, n, word => by
    unfold decG
    cases hb : B[n]? with
    | none => simp
    | some b =>
      simp only
      split
      · simp only
        refine ⟨by omega, ?_⟩
        rw [List.getD_eq_getElem?_getD]
        cases hs : (sg l (n + 1))[2 * word + b.toNat - baseW l (n + 1)]? with
        | none => simp
        | some s => have := (sg_at hs).1; simp only [Option.getD_some]; omega
      · exact decG_sign
theorem CodeOk.len {w : World} {g : Nat} {l : List Int} (h : CodeOk w g l) : l.length ≤ 60000 := by
  obtain ⟨a, p, q, n, c, m, d, o, h1, h2, h3, h4, h5, h6, h7⟩ := h.ex
  have := h5.len; omega
theorem signK_sign {L : List UInt8} {l : List Int} {s : IS} : 0 ≤ (signK L l s).1 ∧ (signK L l s).1 ≤ (l.length : Int) := by
  unfold signK; split
  · exact decG_sign
  · simp
section
variable {w w' w1 : World} {A B gs gr : Nat} {L : List UInt8} {most : Int} {s : IS} {q q' : Option Addr} {n c n' c' : Nat} {out' : List UInt8}
/-- More came out. -/
theorem ISt.pushed (h : ISt w A B gs gr L most s) (hb : Blk w gs STT #[.pointer (some ⟨gr, 0, none⟩), .slice q n c, .int .i64 most, .int .i64 s.e]) (ho : Own w B U8T bE q n c s.out)
    (h1 : Own w1 B U8T bE q' n' c' out') (hg : w.grownBy w1 (Value.slice q n c).ownBlock) :
    ISt (w1.setCell ⟨gs, 1, none⟩ (.slice q' n' c')) A B gs gr L most { s with out := out' } ∧ Chg A w (w1.setCell ⟨gs, 1, none⟩ (.slice q' n' c')) := by
  have hle := h.le
  have hb1 : Blk w1 gs STT #[.pointer (some ⟨gr, 0, none⟩), .slice q n c, .int .i64 most, .int .i64 s.e] := hb.grown hg (fun e => by have := own_far ho h.le.2.2.1 gs e.symm; omega)
  have hr1 := h.rd.grown hg (own_far ho h.le.2.2.2.1)
  have hg2 := grownBy_setCell w1 ⟨gs, 1, none⟩ (.slice q' n' c')
  have hr2 : RdOk (w1.setCell ⟨gs, 1, none⟩ (.slice q' n' c')) gr L s.p := by
    obtain ⟨a, m, d, g1, g2, g3, g4, g5, g6⟩ := hr1.ex
    refine ⟨a, m, d, g1.grown hg2 (fun e => by have := Option.some.inj e; simp only at this; omega), g2, g3, g4, ?_, g6⟩
    refine g5.keep (keep_of_grown hg2 (fun off z he => ?_))
    rw [cell_of_row w1 gs off _ STT (0, 0) hb1] at he
    match off, he with
    | 0, he => simp at he
    | 1, he => simp at he
    | 2, he => simp at he
    | 3, he => simp at he
    | off + 4, he => simp at he
  have hBl1 : Below A w w1 := (Below.refl _ _).grown hg h.base (fun k hk => by have := (ho.1.lt k hk).1; omega)
  refine ⟨⟨⟨q', n', c', hb1.setCell 1 (.slice q' n' c'), h1.grown hg2 (fun k hk e => by have := Option.some.inj e; have := own_far h1 h.le.2.2.1 k (by rw [hk]; rfl); simp only at *; omega)⟩, hr2, h.le.1, h.le.2.1, h.le.2.2.1, h.le.2.2.2.1, h.le.2.2.2.2.1, Nat.le_trans h.le.2.2.2.2.2 (Nat.le_trans hg.size hg2.size)⟩, ?_, ?_⟩
  · exact hBl1.grown hg2 (Nat.le_trans h.base hg.size) (fun k hk => by have := Option.some.inj hk; simp only at this; omega)
  · exact (KeepT.own ho (by decide) hg).trans (KeepT.one hb1 (by decide) hg2)
end
end Go.Proofs.Ytgcdeadfkljeaaa
