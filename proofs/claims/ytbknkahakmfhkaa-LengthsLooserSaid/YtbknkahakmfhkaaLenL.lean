/- lengths.Best where none or one sign comes; lengths.Best for any signs. -/
import Derived.Test.YtbknkahakmfhkaaLenK2
import Derived.Test.YtbknkahakmfhkaaLenU
namespace Go.Proofs.Ytbknkahakmfhkaa
open Go.RowKit
set_option linter.unusedVariables false
set_option linter.unusedSimpArgs false

def fewB (l : List Int) (cs : List KK) : List Nat := cs.foldl (fun o x => o.set (sgn x) 1) (List.replicate l.length 0)
theorem fewB_len (l : List Int) : ∀ cs : List KK, ∀ o : List Nat, (cs.foldl (fun o x => o.set (sgn x) 1) o).length = o.length
  | [], _ => rfl
  | x :: cs, o => by rw [List.foldl_cons, fewB_len l cs, List.length_set]
def bestL (l : List Int) (m : Nat) : List Nat := if (coinsK l).length < 2 then fewB l (coinsK l) else bestK l m
def BestA (w : World) (l : List Int) (m : Int) (e : Ending) (w' : World) : Prop :=
  Below w.heap.size w w' ∧
  (((¬ (1 ≤ m ∧ m ≤ 15) ∨ ∃ x ∈ l, cBad x) ∧ e = .returned (.tuple #[.slice none 0 0, .int .i64 1])) ∨
   ((1 ≤ m ∧ m ≤ 15) ∧ (∀ x ∈ l, ¬ cBad x) ∧ (2 ^ m.toNat < (coinsK l).length ∨ 512 < l.length) ∧ e = .returned (.tuple #[.slice none 0 0, .int .i64 4])) ∨
   ((1 ≤ m ∧ m ≤ 15) ∧ (∀ x ∈ l, ¬ cBad x) ∧ (coinsK l).length ≤ 2 ^ m.toNat ∧ l.length ≤ 512 ∧ ∃ p d, e = .returned (.tuple #[.slice p l.length d, .int .i64 0]) ∧ Own w' w.heap.size IN zN p l.length d (bestL l m.toNat)))
set_option maxRecDepth 100000 in
set_option maxHeartbeats 8000000 in
theorem best_few (a : Option Addr) (n c : Nat) (l : List Int) (m : Int) (w : World) (hl : l.length = n) (hn : n ≤ 1000) (hr : Rd w nI a l) (h2 : (coinsK l).length < 2) :
  Calls Try.prog 36 #[.slice a n c, .int .i64 m] w (BestA w l m) := by
  have HC := Lib.hid (check_any a n c l m w hl (by omega) hr)
  have HL := Lib.hid hl
  have H2 := Lib.hid h2
  clear hl hr h2
  go_enter Try.func36, Try.ntmps36
  go_wp2_with fail
  refine HC.out.mono ?_
  rintro e w1 ⟨hB1, h⟩
  have HB1 := Lib.hid hB1
  clear hB1
  rcases h with ⟨h, rfl⟩ | ⟨h, h', h'', rfl⟩ | ⟨hm, hg, hle, h512, q, k, d, ps, rfl, hP, hK⟩
  · have HF : Hid (BestA w l m (.returned (.tuple #[.slice none 0 0, .int .i64 1])) w1) := Lib.hid ⟨HB1.out, .inl ⟨h, rfl⟩⟩
    clear h
    go_wp2
    go_ret2
    exact HF.out
  · have HF : Hid (BestA w l m (.returned (.tuple #[.slice none 0 0, .int .i64 4])) w1) := Lib.hid ⟨HB1.out, .inr (.inl ⟨h, h', h'', rfl⟩)⟩
    clear h h' h''
    go_wp2
    go_ret2
    exact HF.out
  · have hk : k = (coinsK l).length := by rw [← hK, List.length_map]; have := hP.1.2.1; rw [List.length_map] at this; exact this.symm
    have hk2 : k < 2 := by rw [hk]; exact H2.out
    have HPL : Hid (ps.length = k) := Lib.hid (by rw [hk, ← hK, List.length_map])
    have HOK := Lib.hid (And.intro hm (And.intro hg (And.intro hle h512)))
    have HK := Lib.hid (And.intro hk hK)
    have HP := Lib.hid hP
    have HSG : Hid (∀ p ∈ ps, ∃ s, p.signs = [s] ∧ s < n ∧ sgn (keyP p) = s) := Lib.hid (fun p hp => by
      have h0 : keyP p ∈ coinsK l := by rw [← hK]; exact List.mem_map_of_mem hp
      obtain ⟨h1, h2, h3, h4⟩ := coinsF_coin l 0 (keyP p) h0
      refine ⟨sgn (keyP p), h2, ?_, rfl⟩
      have := (List.getElem?_eq_some_iff.1 h4).1
      have := HL.out
      omega)
    have hs1 := HB1.out.size
    have gk : (k : Int) < 2 := by omega
    clear hm hg hle h512 hk hK hP
    go_wp2_with (at_make; refine wpList_mk (E := zN) (base := w1.heap.size) slIn rfl rfl _ _ rfl n rfl rfl rfl rfl (0 : Nat) rfl (by omega) (by unfold maxLen; omega) (Nat.le_refl _) ?_; intro p2 w2 hown2 hg2)
    have hb2 := grownBy_below hg2 (Nat.le_refl _) (fun k hk => by cases hk)
    have HOF : Hid (∀ g, p2 = some ⟨g, 0, none⟩ → Off g ps) := Lib.hid (fun g hg p hp b hb => by
      have h1 := own_lt2 (HP.out.2 p hp) b hb
      have h2 := own_far hown2 g hg
      omega)
    have HP2 := Lib.hid (And.intro (HP.out.below hb2) (And.intro (hown2.mono hs1) (HB1.out.trans (hb2.mono hs1))))
    clear hown2 hg2 hb2 HP HB1 hs1
    go_wp2
    go_loopw [33] (fun x33 wr => ∃ i : Nat, i ≤ k ∧ x33 = .int .i64 i ∧ Hid (Own wr w.heap.size IN zN p2 n n (fewB l ((ps.take i).map keyP))) ∧ Hid (Packs wr w.heap.size q k d ps) ∧ Hid (Below w.heap.size w wr)) (fun x33 _ => k - (intOf x33).toNat)
    case atStart => exact ⟨0, Nat.zero_le _, rfl, Lib.hid (by have := HP2.out.2.1; unfold fewB; rw [HL.out]; exact this), Lib.hid HP2.out.1, Lib.hid HP2.out.2.2⟩
    case round =>
      clear HP2
      obtain ⟨i, hi, rfl, hO, hR, hB⟩ := hrel
      by_cases hik : i < k
      · have hij : i < ps.length := by rw [HPL.out]; exact hik
        obtain ⟨g, rfl, -, -⟩ := hR.out.1.some (by omega)
        have HC1 := Lib.hid (pk_cells hR.out.1 hij)
        have HRI := Lib.hid (hR.out.2 ps[i] (List.getElem_mem hij))
        have HTK : Hid (fewB l ((ps.take (i + 1)).map keyP) = (fewB l ((ps.take i).map keyP)).set (sgn (keyP ps[i])) 1) := Lib.hid (by
          rw [List.take_succ_eq_append_getElem hij, List.map_append]
          unfold fewB
          rw [List.foldl_append]; rfl)
        obtain ⟨s, hs1, hs2, hs3⟩ := HSG.out ps[i] (List.getElem_mem hij)
        have HOI := Lib.hid (fun gg hgg => HOF.out gg hgg ps[i] (List.getElem_mem hij))
        rw [hs3] at HTK
        generalize ps[i] = x at *
        obtain ⟨o1, p1, c1, s1⟩ := x
        have hs1 : s1 = [s] := hs1
        subst hs1
        have q1 : wr.cell? ⟨g, i * 2, none⟩ = some (.int .i64 o1) := HC1.out.1
        have q2 : wr.cell? ⟨g, i * 2 + 1, none⟩ = some (.slice p1 1 c1) := HC1.out.2
        have hRI : Own wr 0 IN zN p1 1 c1 [s] := HRI.out
        obtain ⟨gp, hgp, -, hgl, hcs, -⟩ := hRI.row (by omega)
        have hgp : p1 = some ⟨gp, 0, none⟩ := hgp
        subst hgp
        have q3 : wr.cell? ⟨gp, 0, none⟩ = some (.int .i64 (s : Int)) := hcs 0 s rfl
        obtain ⟨g2, y, rfl, hg2a, hg2b, -, q4, q5⟩ := hO.out.at hs2
        have hbk := (below_alloc (wr.setCell ⟨g2, s, none⟩ (.int .i64 1)) (.cells #[.int .i64 o1, .slice (some ⟨gp, 0, none⟩) 1 c1] PK))
        have hs0 := hB.out.size
        have HF : Hid (Own ((wr.setCell ⟨g2, s, none⟩ (.int .i64 1)).alloc (.cells #[.int .i64 o1, .slice (some ⟨gp, 0, none⟩) 1 c1] PK)) w.heap.size IN zN (some ⟨g2, 0, none⟩) n n (fewB l ((ps.take (i + 1)).map keyP))) := Lib.hid (by
          rw [HTK.out]; exact (hO.out.set s hs2 1).below hbk)
        have HF2 : Hid (Packs ((wr.setCell ⟨g2, s, none⟩ (.int .i64 1)).alloc (.cells #[.int .i64 o1, .slice (some ⟨gp, 0, none⟩) 1 c1] PK)) w.heap.size (some ⟨g, 0, none⟩) k d ps) := Lib.hid ((hR.out.setCell (HOF.out g2 rfl) hO.out s _).below hbk)
        have HF3 : Hid (Below w.heap.size w ((wr.setCell ⟨g2, s, none⟩ (.int .i64 1)).alloc (.cells #[.int .i64 o1, .slice (some ⟨gp, 0, none⟩) 1 c1] PK))) := Lib.hid ((hB.out.setCell (own_far hO.out g2 rfl) _).trans (hbk.mono (by simpa using hs0)))
        clear HC1 HRI hs3 hcs hRI hO hR hB hbk
        go_wp2
        go_roundw
        case rel => exact ⟨i + 1, by omega, by go_num, HF, HF2, HF3⟩
        case measure => simp [intOf] <;> omega
      · have hik' : i = k := by omega
        have HF : Hid (BestA w l m (.returned (.tuple #[.slice p2 n n, .int .i64 0])) wr) := Lib.hid ⟨hB.out, .inr (.inr ⟨HOK.out.1, HOK.out.2.1, HOK.out.2.2.1, HOK.out.2.2.2, p2, n, by rw [HL.out], by
          have h1 := hO.out
          rw [List.take_of_length_le (by rw [HPL.out]; omega), HK.out.2] at h1
          unfold bestL
          rw [if_pos H2.out, HL.out]
          exact h1⟩)⟩
        subst hik'
        clear hO hR hB
        go_wp2
        go_ret2
        exact HF.out
theorem best_all (a : Option Addr) (n c : Nat) (l : List Int) (m : Int) (w : World) (hl : l.length = n) (hn : n ≤ 1000) (hr : Rd w nI a l) :
  Calls Try.prog 36 #[.slice a n c, .int .i64 m] w (BestA w l m) := by
  by_cases h2 : (coinsK l).length < 2
  · exact best_few a n c l m w hl hn hr h2
  · refine (best_two a n c l m w hl hn hr (by omega) (by have := coinsF_len l 0; have h3 : (coinsF 0 l).length = (coinsK l).length := rfl; omega)).mono ?_
    rintro e w' ⟨hb, h⟩
    refine ⟨hb, ?_⟩
    rcases h with h | h | ⟨h1, h3, h4, h5, p, d, h6, h7⟩
    · exact .inl h
    · exact .inr (.inl h)
    · exact .inr (.inr ⟨h1, h3, h4, h5, p, d, h6, by unfold bestL; rw [if_neg h2]; exact h7⟩)
end Go.Proofs.Ytbknkahakmfhkaa
