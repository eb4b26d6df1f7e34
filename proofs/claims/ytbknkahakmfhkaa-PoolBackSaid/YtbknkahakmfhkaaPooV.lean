/- PoolBack, walked. -/
import Derived.Test.YtbknkahakmfhkaaPooQ
import Derived.Test.YtbknkahakmfhkaaOpenW
import Derived.Test.YtbknkahakmfhkaaPooE
import Derived.Test.YtbknkahakmfhkaaPooG
namespace Go.Proofs.Ytbknkahakmfhkaa
open Go.RowKit
set_option linter.unusedVariables false
set_option linter.unusedSimpArgs false

theorem rholds_nil (a : Option Addr) (c : Nat) (w : World) : Calls Try.prog 42 #[.slice a 0 c] w (HoP false w) := by
  go_enter Try.func42, Try.ntmps42
  go_wp2
  go_ret
  exact ⟨rfl, Below.refl _ _⟩
/-- Holds of the document: not for no constants. -/
theorem rholds_one (a : Option Addr) (n c : Nat) (l : List RawK) (w : World) (hl : l.length = n) (hn : n ≤ maxLen) (hr : RdW w a l) : Calls Try.prog 42 #[.slice a n c] w fun e w' => Below w.heap.size w w' ∧ ∃ B : Bool, e = .returned (.bool B) ∧ (B = true → l ≠ []) := by
  by_cases h0 : l = []
  · subst h0
    obtain rfl : 0 = n := hl
    refine (rholds_nil a c w).mono ?_
    rintro e w' ⟨h1, h2⟩
    exact ⟨h2, false, h1, fun h => by cases h⟩
  · refine (rholds_any a n c l w hl hn hr).mono ?_
    rintro e w' ⟨h1, B, h2⟩
    exact ⟨h1, B, h2, fun _ => h0⟩
theorem Buf.caps {α : Type} {w : World} {E : α → Value} {a : Option Addr} {l : List α} {base : Nat} {e : TypeId} {n c : Nat} (h : Buf w base e E a n c l) : n ≤ c ∧ c ≤ maxLen := by
  rcases h with h | ⟨h1, h2, _⟩
  · exact ⟨h.le_cap, h.cap_max⟩
  · subst h1; exact ⟨Nat.le_refl _, h2⟩
theorem loopK_le {L : List UInt8} {n : Nat} : ∀ (k : Nat) (acc : List RawK) (p : Nat), n - acc.length < k → (loopK L n k acc p).1.length ≤ n
  | 0, acc, p, hf => by omega
  | k+1, acc, p, hf => by
    unfold loopK
    by_cases h1 : acc.length < n
    · rw [if_pos h1]
      by_cases h2 : (stepK L p).2.2 = 0
      · rw [if_pos h2]
        have := addK_pos (stepK L p).1
        exact loopK_le k _ _ (by rw [List.length_append]; omega)
      · rw [if_neg h2]; exact Nat.zero_le _
    · rw [if_neg h1]
      by_cases h2 : n < acc.length
      · rw [if_pos h2]; exact Nat.zero_le _
      · rw [if_neg h2]
        show acc.length ≤ n
        omega
theorem readK_le (L : List UInt8) : (readK L).1.length ≤ 65536 := by
  unfold readK
  simp only
  split
  · exact Nat.zero_le _
  · split
    · exact Nat.zero_le _
    · have h1 := loopK_le (L := L) ((bigR (nextL L 0 0 2 true)).toNat + 1) [zeroK] (nextAt L.length 0 0 2 true) (n := (bigR (nextL L 0 0 2 true)).toNat) (by simp only [List.length_singleton]; omega)
      have := num2 L 0 0
      omega
abbrev RCUR : TypeId := 44
def LawT (w : World) (e : Ending) (w' : World) : Prop := e = .returned (.bool true) ∧ Below w.heap.size w w'
set_option maxRecDepth 100000 in
set_option maxHeartbeats 16000000 in
theorem walkPoolBack (a : Option Addr) (n c : Nat) (l : List RawK) (w : World) (h : RawsIn w a n c l) : Calls Try.prog 10 #[.slice a n c] w fun e w' => e = .returned (.bool true) ∧ Below w.heap.size w w' := by
  have HH := Lib.hid h
  have hn : n ≤ maxLen := Nat.le_trans h.nc h.cm
  clear h
  go_enter Try.func10, Try.ntmps10
  go_wp2_with fail
  refine (fixed16_any w).mono ?_
  rintro e w1 ⟨rfl, hb1⟩
  have HB1 := Lib.hid hb1
  have HR1 := Lib.hid (HH.out.rd.below hb1)
  clear hb1
  go_wp2_with fail
  refine (few_any a n c l w1 HH.out.len hn HR1.out HH.out.txt).mono ?_
  rintro e w2 ⟨hb2, B, rfl, hB⟩
  have HB2 := Lib.hid (HB1.out.trans (hb2.mono HB1.out.size))
  have HR2 := Lib.hid (HR1.out.below hb2)
  clear hb2 HB1 HR1
  cases B with
  | false =>
    go_wp2_with fail
    go_ret
    exact ⟨rfl, HB2.out⟩
  | true =>
    have HFEW := Lib.hid (hB rfl)
    clear hB
    go_wp2_with fail
    refine (rholds_one a n c l w2 HH.out.len hn HR2.out).mono ?_
    rintro e w3 ⟨hb3, B, rfl, hB⟩
    have HB3 := Lib.hid (HB2.out.trans (hb3.mono HB2.out.size))
    have HR3 := Lib.hid (HR2.out.below hb3)
    clear hb3 HB2 HR2
    cases B with
    | false =>
      go_wp2_with fail
      go_ret
      exact ⟨rfl, HB3.out⟩
    | true =>
      have HNE := Lib.hid (hB rfl)
      clear hB
      go_wp2_with fail
      have HPL : Hid ((poolB l).length ≤ 30000) := Lib.hid (accB_le l l.length HFEW.out.1 HFEW.out.2)
      refine (refBytes_any a n c l w3 HH.out.len (by rw [← HH.out.len]; exact HFEW.out.1) HR3.out HFEW.out.2 HH.out.bits).mono ?_
      rintro e w4 ⟨p4, k4, d4, rfl, hbuf4, hb4⟩
      have hb04 := HB3.out.trans (hb4.mono HB3.out.size)
      have HC5 : Hid (RefOk (w4.alloc (.cells #[.slice p4 k4 d4, .int .i64 0, .int .i64 0] RCUR)) w4.heap.size (poolB l) 0 0 ∧ Below w.heap.size w (w4.alloc (.cells #[.slice p4 k4 d4, .int .i64 0, .int .i64 0] RCUR)) ∧ w.heap.size ≤ w4.heap.size) := Lib.hid (by
        have h1 := hbuf4.len
        have h2 := HPL.out
        have h3 := hbuf4.caps
        exact ⟨RefOk.new w4 h1 h3.1 ⟨by have := h3.2; unfold maxLen at this; omega, by omega⟩ hbuf4.rd, hb04.alloc hb04.size _, hb04.size⟩)
      clear hbuf4 hb4 hb04 HB3 HR3
      go_wp2_with fail
      generalize w4.alloc (.cells #[.slice p4 k4 d4, .int .i64 0, .int .i64 0] RCUR) = w5 at HC5 ⊢
      generalize w4.heap.size = g5 at HC5 ⊢
      refine (rread_any g5 (poolB l) w5 HC5.out.1).mono ?_
      rintro e w6 ⟨a6, n6, c6, rfl, hl6, hr6, hc6, hg6⟩
      have HB6 : Hid (Below w.heap.size w w6) := Lib.hid (HC5.out.2.1.grown hg6 HC5.out.2.1.size (fun k hk => by have h := Option.some.inj hk; have := HC5.out.2.2; omega))
      have HR6 := Lib.hid (And.intro hl6 hr6)
      clear hl6 hr6 hc6 hg6 HC5
      go_wp2_with fail
      refine (same_any a6 a n6 n c6 c (readK (poolB l)).1 l w6 HR6.out.1 HH.out.len (by rw [← HR6.out.1]; have := readK_le (poolB l); unfold maxLen; omega) hn HR6.out.2 (HH.out.rd.below HB6.out)).mono ?_
      rintro e w7 ⟨⟨q, rfl⟩, B, rfl, hB⟩
      have HB7 : Hid (Below w.heap.size w (w6.drewN q)) := Lib.hid (HB6.out.trans (below_drewN _ _ _))
      generalize w6.drewN q = w7 at HB7 ⊢
      clear HR6 HB6
      cases B with
      | false =>
        go_wp2_with fail
        go_ret
        exact ⟨rfl, HB7.out⟩
      | true =>
        have HEQ : Hid ((readK (poolB l)).1 = l) := Lib.hid (hB.1 rfl)
        have HEND : Hid ((readK (poolB l)).2.1 = (poolB l).length ∧ (readK (poolB l)).2.2 = 0) := Lib.hid (readK_end HNE.out HEQ.out)
        clear hB
        go_wp2_with fail
        refine (pbytes_any a n c l w7 HH.out.len (by rw [← HH.out.len]; exact HFEW.out.1) (HH.out.rd.below HB7.out) HFEW.out.2 HH.out.bits).mono ?_
        rintro e w8 ⟨p8, k8, d8, rfl, hbuf8, hb8⟩
        have HBUF8 := Lib.hid hbuf8
        have HB8 := Lib.hid (HB7.out.trans (hb8.mono HB7.out.size))
        clear hbuf8 hb8 HB7
        go_wp2_with fail
        refine (cNew_any p8 k8 d8 (poolB l) w8 HBUF8.out.len (by rw [← HBUF8.out.len]; have := HPL.out; omega) HBUF8.out.rd).mono ?_
        rintro e w9 ⟨g, rfl, hgs, hc9, hb9⟩
        have HC9 : Hid (CurOk w9 g (poolB l) 0 0 ∧ Below w.heap.size w w9 ∧ w.heap.size ≤ g) := Lib.hid ⟨hc9, HB8.out.trans (hb9.mono HB8.out.size), Nat.le_trans HB8.out.size hgs⟩
        clear hgs hc9 hb9 HBUF8 HB8
        go_wp2_with fail
        refine (pread_any g (poolB l) w9 HC9.out.1).mono ?_
        rintro e w10 ⟨a10, n10, c10, rfl, hl10, hr10, hc10, hg10⟩
        rw [HEQ.out] at hl10 hr10
        rw [HEND.out.1, HEND.out.2] at hc10
        have HC10 : Hid (CurOk w10 g (poolB l) (poolB l).length 0 ∧ Below w.heap.size w w10 ∧ w.heap.size ≤ g ∧ l.length = n10 ∧ RdW w10 a10 l) := Lib.hid ⟨hc10, HC9.out.2.1.grown hg10 HC9.out.2.1.size (fun k hk => by have h := Option.some.inj hk; have := HC9.out.2.2; omega), HC9.out.2.2, hl10, hr10⟩
        clear hl10 hr10 hc10 hg10 HC9
        go_wp2_with fail
        refine (same_any a10 a n10 n c10 c l l w10 HC10.out.2.2.2.1 HH.out.len (by rw [← HC10.out.2.2.2.1]; have := HFEW.out.1; unfold maxLen; omega) hn HC10.out.2.2.2.2 (HH.out.rd.below HC10.out.2.1)).mono ?_
        rintro e w11 ⟨⟨q, rfl⟩, B, rfl, hB⟩
        obtain rfl : B = true := hB.2 rfl
        have HC11 : Hid (CurOk (w10.drewN q) g (poolB l) (poolB l).length 0 ∧ Below w.heap.size w (w10.drewN q) ∧ w.heap.size ≤ g) := Lib.hid ⟨HC10.out.1.drewN q, HC10.out.2.1.trans (below_drewN _ _ _), HC10.out.2.2.1⟩
        generalize w10.drewN q = w11 at HC11 ⊢
        clear HC10 hB
        go_wp2_with fail
        refine (cEnd_any g (poolB l) (poolB l).length 0 w11 HC11.out.1).mono ?_
        rintro e w12 ⟨rfl, -, hg12⟩
        have hend : endEr (poolB l).length (poolB l).length 0 = 0 := by unfold endEr; rw [if_neg (Nat.lt_irrefl _)]
        rw [hend]
        have HB12 := Lib.hid (HC11.out.2.1.grown hg12 HC11.out.2.1.size (fun k hk => by have h := Option.some.inj hk; have := HC11.out.2.2; omega))
        clear hend hg12 HC11
        go_wp2_with fail
        go_ret
        exact ⟨rfl, HB12.out⟩
end Go.Proofs.Ytbknkahakmfhkaa
