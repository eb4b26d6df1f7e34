/- The law's same. -/
import Derived.Test.YtbknkahakmfhkaaPooA
import Derived.Test.YtbknkahakmfhkaaStr
namespace Go.Proofs.Ytbknkahakmfhkaa
open Go.RowKit
set_option linter.unusedVariables false
set_option linter.unusedSimpArgs false

def SameP (x y : List RawK) (w : World) (e : Ending) (w' : World) : Prop := (∃ k, w' = w.drewN k) ∧ ∃ B : Bool, e = .returned (.bool B) ∧ (B = true ↔ x = y)
theorem str_list (s : ByteArray) : s.toList = s.data.toList := by
  obtain ⟨d⟩ := s
  have := ByteArray.toList_mk d.toList
  simpa using this
theorem str_inj {s t : ByteArray} (h : s.toList = t.toList) : s = t := by
  rw [str_list, str_list] at h
  cases s; cases t
  congr 1
  exact Array.toList_inj.1 h
theorem take_eq_snoc {x y : List RawK} {i : Nat} (h1 : i < x.length) (h2 : i < y.length) (h : x.take i = y.take i) (he : x[i] = y[i]) : x.take (i + 1) = y.take (i + 1) := by
  rw [List.take_succ_eq_append_getElem h1, List.take_succ_eq_append_getElem h2, h, he]
set_option maxRecDepth 100000 in
set_option maxHeartbeats 8000000 in
theorem same_any (a b : Option Addr) (n m c d : Nat) (x y : List RawK) (w : World) (hx : x.length = n) (hy : y.length = m) (hn : n ≤ maxLen) (hm : m ≤ maxLen) (hr : RdW w a x) (hs : RdW w b y) : Calls Try.prog 44 #[.slice a n c, .slice b m d] w (SameP x y w) := by
  have HH := Lib.hid (And.intro hx (And.intro hy (And.intro hr hs)))
  unfold maxLen at hn hm
  clear hx hy hr hs
  by_cases hnm : n = m
  rotate_left
  · have HF : Hid (SameP x y w (.returned (.bool false)) w) := Lib.hid ⟨⟨0, rfl⟩, false, rfl, by
      constructor
      · intro h; cases h
      · intro h; exfalso; apply hnm; rw [← HH.out.1, ← HH.out.2.1, h]⟩
    have g : ((n : Int) == (m : Int)) = false := by simp; omega
    have g2 : ¬ (n : Int) = (m : Int) := by omega
    go_enter Try.func44, Try.ntmps44
    go_wp2
    go_ret
    exact HF.out
  subst hnm
  go_enter Try.func44, Try.ntmps44
  go_wp2
  go_loopw [13] (fun x13 wr => ∃ i : Nat, i ≤ n ∧ x13 = .int .i64 i ∧ Hid (x.take i = y.take i) ∧ Hid (∃ k, wr = w.drewN k)) (fun x13 _ => n - (intOf x13).toNat)
  case atStart => exact ⟨0, Nat.zero_le _, rfl, Lib.hid rfl, Lib.hid ⟨0, rfl⟩⟩
  case round =>
    obtain ⟨i, hi, rfl, hE, hW⟩ := hrel
    by_cases hin : i < n
    · have hix : i < x.length := by rw [HH.out.1]; exact hin
      have hiy : i < y.length := by rw [HH.out.2.1]; exact hin
      have hr2 : RdW wr a x := by obtain ⟨k, hk⟩ := hW.out; rw [hk]; exact HH.out.2.2.1.drewN k
      have hs2 : RdW wr b y := by obtain ⟨k, hk⟩ := hW.out; rw [hk]; exact HH.out.2.2.2.drewN k
      obtain ⟨p, o, rfl, hc⟩ := hr2.at hix
      obtain ⟨q, u, rfl, hc2⟩ := hs2.at hiy
      obtain ⟨c0, c1, c2, c3, c4⟩ := hc
      obtain ⟨d0, d1, d2, d3, d4⟩ := hc2
      have HT : Hid (x[i] = y[i] → x.take (i + 1) = y.take (i + 1)) := Lib.hid (fun h => take_eq_snoc hix hiy hE.out h)
      have HN : Hid (x[i] ≠ y[i] → ∀ k, SameP x y w (.returned (.bool false)) (wr.drewN k)) := Lib.hid (fun h k => ⟨by obtain ⟨q, hq⟩ := hW.out; exact ⟨q + k, by rw [hq, World.drewN_drewN]⟩, false, rfl, by
        constructor
        · intro h; cases h
        · intro h2; subst h2; exact absurd rfl h⟩)
      generalize x[i] = r at *
      generalize y[i] = r2 at *
      obtain ⟨t, s, bi, ra, rb⟩ := r
      obtain ⟨t', s', bi', ra', rb'⟩ := r2
      simp only at c0 c1 c2 c3 c4 d0 d1 d2 d3 d4
      clear hr2 hs2
      by_cases h1 : t = t'
      · subst h1
        by_cases h2 : s = s'
        · subst h2
          by_cases h3 : bi = bi'
          · subst h3
            by_cases h4 : ra = ra'
            · subst h4
              by_cases h5 : rb = rb'
              · subst h5
                have HT2 := Lib.hid (HT.out rfl)
                go_wp2
                go_quiet (fail)
                go_wp2
                go_roundw
                case rel => exact ⟨i + 1, by omega, by go_num, HT2, Lib.hid (by obtain ⟨q, hq⟩ := hW.out; exact ⟨q + _, by rw [hq, World.drewN_drewN]⟩)⟩
                case measure => simp [intOf] <;> omega
              · have HF := Lib.hid (HN.out (fun h => h5 (by injection h)))
                have g : (rb == rb') = false := by simpa using h5
                go_wp2
                go_quiet (fail)
                go_wp2
                go_ret
                exact HF.out _
            · have HF := Lib.hid (HN.out (fun h => h4 (by injection h)))
              have g : (ra == ra') = false := by simpa using h4
              go_wp2
              go_quiet (fail)
              go_wp2
              go_ret
              exact HF.out _
          · have HF := Lib.hid (HN.out (fun h => h3 (by injection h)))
            have g : (bi == bi') = false := by simpa using h3
            go_wp2
            go_quiet (fail)
            go_wp2
            go_ret
            exact HF.out _
        · have HF := Lib.hid (HN.out (fun h => h2 (by injection h)))
          have g0 : ¬ s.toList = s'.toList := fun h => h2 (str_inj h)
          have g : (s.toList == s'.toList) = false := by simpa using g0
          go_wp2
          go_quiet (fail)
          go_wp2
          go_ret
          exact HF.out _
      · have HF := Lib.hid (HN.out (fun h => h1 (by injection h)))
        have g : (t == t') = false := by simpa using h1
        go_wp2
        go_quiet (fail)
        go_wp2
        go_ret
        exact HF.out _
    · have hin' : i = n := by omega
      subst hin'
      have HF : Hid (SameP x y w (.returned (.bool true)) wr) := Lib.hid ⟨hW.out, true, rfl, by
        have h := hE.out
        rw [List.take_of_length_le (by rw [HH.out.1]; exact Nat.le_refl _), List.take_of_length_le (by rw [HH.out.2.1]; exact Nat.le_refl _)] at h
        exact ⟨fun _ => h, fun _ => rfl⟩⟩
      go_wp2
      go_ret
      exact HF.out
end Go.Proofs.Ytbknkahakmfhkaa
