/- stableCmpFunc, SortStableFunc at packs of any number. -/
import Derived.Test.YtbknkahakmfhkaaLenZd
namespace Go.Proofs.Ytbknkahakmfhkaa
open Go.Shelf Go.RowKit Go.Lib Go.Sort
set_option linter.unusedVariables false
set_option linter.unusedSimpArgs false

theorem flat_srt : ∀ cs : List (List Pk), (cs.map srtP).flatten.length = cs.flatten.length
  | [] => rfl
  | c :: cs => by rw [List.map_cons, List.flatten_cons, List.flatten_cons, List.length_append, List.length_append, flat_srt cs, srtP_len]
theorem flat_all {k : Nat} : ∀ cs : List (List Pk), (∀ c ∈ cs, c.length = k) → cs.flatten.length = cs.length * k
  | [], _ => by simp
  | c :: cs, h => by
    rw [List.flatten_cons, List.length_append, h c (by simp), flat_all cs (fun x hx => h x (List.mem_cons_of_mem _ hx)), List.length_cons, Nat.add_mul]; omega
theorem flat_snoc (cs : List (List Pk)) (c : List Pk) : ((cs ++ [c]).map srtP).flatten = (cs.map srtP).flatten ++ srtP c ∧ (cs ++ [c]).flatten = cs.flatten ++ c := by
  simp
def BlkOk (L : List Pk) (bs : Nat) (cs : List (List Pk)) (r : List Pk) : Prop := L = cs.flatten ++ r ∧ (∀ c ∈ cs, c.length = bs) ∧ r.length < bs
def InOk (L : List Pk) (bs A : Nat) (ds todo : List (List Pk)) (r : List Pk) : Prop := A = ds.flatten.length ∧ L = ds.flatten ++ todo.flatten ++ r ∧ (∀ c ∈ ds, c.length = 2 * bs) ∧ (∀ c ∈ todo, c.length = bs) ∧ r.length < bs
set_option maxHeartbeats 8000000 in
set_option maxRecDepth 1000000 in
theorem stable_any (blk cap n : Nat) (d0 : Array Pk) (w0 W : World) (L : List Pk) (R : RowPk w0 blk d0) (h0 : d0.size = n) (S : SWL w0 blk L W) (hn : L.length = n) (hsz : n < 1000000) :
    Calls Try.prog 105 #[.slice (some ⟨blk, 0, none⟩) n cap, .int .i64 n, .func (.func 75) #[] #[]] W fun e w' => e = .returned (.tuple #[]) ∧ SWL w0 blk (srtP L) w' := by
  have HR : Hid (RowPk w0 blk d0 ∧ d0.size = n) := Lib.hid ⟨R, h0⟩
  have HS : Hid (SWL w0 blk L W) := Lib.hid S
  have HN := Lib.hid hn
  clear R h0 S hn
  go_enter Try.func105, Try.ntmps105
  go_wp2
  go_loopw [7, 8] (fun x7 x8 wr => ∃ (A : Nat) (cs : List (List Pk)) (r : List Pk), A ≤ n ∧ x7 = .int .i64 (A : Int) ∧ x8 = .int .i64 ((A : Int) + 20) ∧ Hid (A = cs.flatten.length ∧ L = cs.flatten ++ r ∧ (∀ c ∈ cs, c.length = 20)) ∧ Hid (SWL w0 blk ((cs.map srtP).flatten ++ r) wr)) (fun x7 _ _ => n - (intOf x7).toNat)
  case atStart => exact ⟨0, [], L, Nat.zero_le _, rfl, rfl, Lib.hid ⟨rfl, rfl, fun c hc => by cases hc⟩, HS⟩
  case round =>
    clear HS
    obtain ⟨A, cs, r, hA, rfl, rfl, HC, HS⟩ := hrel
    have HAr : Hid (A + r.length = n) := Lib.hid (by rw [HC.out.1, ← HN.out, HC.out.2.1, List.length_append])
    by_cases h20 : A + 20 ≤ n
    · obtain ⟨B, hB⟩ : ∃ B : Nat, Hid (B = A + 20) := ⟨_, Lib.hid rfl⟩
      have gB : (A : Int) + 20 = (B : Int) := by have := hB.out; omega
      have hBn : B ≤ n := by have := hB.out; omega
      have HI := Lib.hid (insL_any blk cap A B n d0 w0 wr (cs.map srtP).flatten (r.take 20) (r.drop 20) HR.out.1 HR.out.2 (by rw [List.append_assoc, List.take_append_drop]; exact HS.out) (by rw [List.append_assoc, List.take_append_drop, List.length_append, flat_srt]; have := HC.out.1; have := HAr.out; omega) (by rw [flat_srt]; exact HC.out.1) (by rw [List.length_take]; have := HAr.out; have := hB.out; omega) hsz)
      go_wp2_with fail
      refine HI.out.mono ?_
      rintro e w1 ⟨rfl, h⟩
      have HF : Hid (SWL w0 blk (((cs ++ [r.take 20]).map srtP).flatten ++ r.drop 20) w1) := Lib.hid (by rw [(flat_snoc _ _).1]; exact h)
      clear h
      go_wp2
      go_roundw
      case rel => exact ⟨B, cs ++ [r.take 20], r.drop 20, hBn, rfl, rfl, Lib.hid ⟨by rw [(flat_snoc _ _).2, List.length_append, ← HC.out.1, List.length_take]; have := HAr.out; have := hB.out; omega, by rw [(flat_snoc _ _).2, List.append_assoc, List.take_append_drop]; exact HC.out.2.1, fun c hc => by
        rcases List.mem_append.1 hc with hc | hc
        · exact HC.out.2.2 c hc
        · rw [List.mem_singleton.1 hc, List.length_take]; have := HAr.out; omega⟩, HF⟩
      case measure => simp [intOf] <;> (have := hB.out; omega)
    · have HI := Lib.hid (insL_any blk cap A n n d0 w0 wr (cs.map srtP).flatten r [] HR.out.1 HR.out.2 (by rw [List.append_nil]; exact HS.out) (by rw [List.append_nil, List.length_append, flat_srt]; have := HC.out.1; have := HAr.out; omega) (by rw [flat_srt]; exact HC.out.1) HAr.out.symm hsz)
      have g20 : ¬ (A : Int) + 20 ≤ (n : Int) := by omega
      go_wp2_with fail
      refine HI.out.mono ?_
      rintro e w1 ⟨rfl, h⟩
      have HS1 : Hid (SWL w0 blk ((cs.map srtP).flatten ++ srtP r) w1) := Lib.hid (by rw [List.append_nil] at h; exact h)
      have HB1 : Hid (BlkOk L 20 cs r) := Lib.hid ⟨HC.out.2.1, HC.out.2.2, by have := HAr.out; omega⟩
      clear h HI HS HC HAr
      go_wp2
      go_loopw [6] (fun x6 wr => ∃ (bs : Nat) (cs : List (List Pk)) (r : List Pk), 0 < bs ∧ bs ≤ 2000000 ∧ x6 = .int .i64 (bs : Int) ∧ Hid (BlkOk L bs cs r) ∧ Hid (SWL w0 blk ((cs.map srtP).flatten ++ srtP r) wr)) (fun x6 _ => n - (intOf x6).toNat)
      case atStart => exact ⟨20, cs, r, by omega, by omega, rfl, HB1, HS1⟩
      case round =>
        clear HS1 HB1
        obtain ⟨bs, cs, r, hb0, hb1, rfl, HB, HS⟩ := hrel
        by_cases hbn : bs < n
        · go_wp2
          go_loopw [7, 8] (fun x7 x8 wr => ∃ (A B : Nat) (ds todo : List (List Pk)), A ≤ n ∧ B ≤ n + 2 * bs ∧ x7 = .int .i64 (A : Int) ∧ x8 = .int .i64 (B : Int) ∧ Hid (B = A + 2 * bs) ∧ Hid (InOk L bs A ds todo r) ∧ Hid (SWL w0 blk ((ds.map srtP).flatten ++ (todo.map srtP).flatten ++ srtP r) wr)) (fun x7 _ _ => n - (intOf x7).toNat)
          case atStart => exact ⟨0, 2 * bs, [], cs, Nat.zero_le _, by omega, rfl, by simp, Lib.hid (by omega), Lib.hid ⟨rfl, HB.out.1, (fun c hc => by cases hc), HB.out.2.1, HB.out.2.2⟩, HS⟩
          case round =>
            clear HS HB
            obtain ⟨A, B, ds, todo, hA, hBn, rfl, rfl, hB, HC, HS⟩ := hrel
            have HTL : Hid (A + todo.length * bs + r.length = n) := Lib.hid (by
              rw [← HN.out, HC.out.2.1, List.length_append, List.length_append, flat_all todo HC.out.2.2.2.1, HC.out.1])
            obtain ⟨m, hm⟩ : ∃ m : Nat, Hid (m = A + bs) := ⟨_, Lib.hid rfl⟩
            have gm : (A : Int) + (bs : Int) = (m : Int) := by have := hm.out; omega
            match todo, HC, HS, HTL with
            | c1 :: c2 :: todo, HC, HS, HTL =>
              have hAB : B ≤ n := by
                have h1 := HTL.out
                rw [List.length_cons, List.length_cons, Nat.add_mul, Nat.add_mul] at h1
                have := hB.out
                omega
              have hl1 : Hid (c1.length = bs ∧ c2.length = bs) := Lib.hid ⟨HC.out.2.2.2.1 c1 (by simp), HC.out.2.2.2.1 c2 (by simp)⟩
              have HI := Lib.hid (sym_all blk cap n d0 w0 HR.out.1 HR.out.2 hsz (B - A) A m B wr (ds.map srtP).flatten (srtP c1) (srtP c2) ((todo.map srtP).flatten ++ srtP r) (Nat.le_refl _) (by have := HS.out; simp only [List.map_cons, List.flatten_cons] at this; simpa only [List.append_assoc] using this) (by
                simp only [List.length_append, flat_srt, srtP_len]
                have h1 := HTL.out
                rw [List.length_cons, List.length_cons, Nat.add_mul, Nat.add_mul] at h1
                have h2 := flat_all todo (fun x hx => HC.out.2.2.2.1 x (List.mem_cons_of_mem _ (List.mem_cons_of_mem _ hx)))
                have h3 := HC.out.1; have h4 := hl1.out
                omega) (by rw [flat_srt]; exact HC.out.1) (by rw [srtP_len, hl1.out.1]; exact hm.out) (by rw [srtP_len, hl1.out.2]; have := hm.out; have := hB.out; omega) (by rw [srtP_len, hl1.out.1]; exact hb0) (by rw [srtP_len, hl1.out.2]; exact hb0) (srtP_pw _) (srtP_pw _))
              go_wp2_with fail
              refine HI.out.mono ?_
              rintro e w2 ⟨rfl, h⟩
              have HF : Hid (SWL w0 blk (((ds ++ [c1 ++ c2]).map srtP).flatten ++ (todo.map srtP).flatten ++ srtP r) w2) := Lib.hid (by
                rw [(flat_snoc _ _).1, ← srtP_merge]
                simpa only [List.append_assoc] using h)
              clear h
              go_wp2
              go_roundw
              case rel => exact ⟨B, B + 2 * bs, ds ++ [c1 ++ c2], todo, hAB, by omega, rfl, by congr 1, Lib.hid rfl, Lib.hid ⟨by rw [(flat_snoc _ _).2, List.length_append, ← HC.out.1, List.length_append, hl1.out.1, hl1.out.2]; have := hB.out; omega, by rw [(flat_snoc _ _).2]; have := HC.out.2.1; simp only [List.flatten_cons] at this; simpa only [List.append_assoc] using this, fun c hc => by
                rcases List.mem_append.1 hc with hc | hc
                · exact HC.out.2.2.1 c hc
                · rw [List.mem_singleton.1 hc, List.length_append, hl1.out.1, hl1.out.2]; omega, fun c hc => HC.out.2.2.2.1 c (List.mem_cons_of_mem _ (List.mem_cons_of_mem _ hc)), HC.out.2.2.2.2⟩, HF⟩
              case measure => simp [intOf] <;> (have := hB.out; omega)
            | [], HC, HS, HTL =>
              have h1 : Hid (A + r.length = n) := Lib.hid (by have := HTL.out; simpa using this)
              have hAB : ¬ B ≤ n := by have := h1.out; have := hB.out; have := HC.out.2.2.2.2; omega
              have hmn : ¬ m < n := by have := h1.out; have := hm.out; have := HC.out.2.2.2.2; omega
              have HF : Hid (SWL w0 blk ((ds.map srtP).flatten ++ srtP r) wr) := Lib.hid (by have := HS.out; simpa using this)
              have HFB : Hid (BlkOk L (bs * 2) ds r) := Lib.hid ⟨by have := HC.out.2.1; simpa using this, fun c hc => by have := HC.out.2.2.1 c hc; omega, by have := HC.out.2.2.2.2; omega⟩
              clear HS
              go_wp2
              go_roundw
              case rel => exact ⟨bs * 2, ds, r, by omega, by omega, by congr 1, HFB, HF⟩
              case measure => simp [intOf] <;> omega
            | [c], HC, HS, HTL =>
              have h1 : Hid (A + bs + r.length = n) := Lib.hid (by have := HTL.out; simpa using this)
              have hlc : Hid (c.length = bs) := Lib.hid (HC.out.2.2.2.1 c (by simp))
              have hAB : ¬ B ≤ n := by have := h1.out; have := hB.out; have := HC.out.2.2.2.2; omega
              have HFB : Hid (BlkOk L (bs * 2) ds (c ++ r)) := Lib.hid ⟨by have := HC.out.2.1; simp only [List.flatten_cons, List.flatten_nil, List.append_nil] at this; rw [this, List.append_assoc], fun c hc => by have := HC.out.2.2.1 c hc; omega, by rw [List.length_append, hlc.out]; have := HC.out.2.2.2.2; omega⟩
              have HS2 : Hid (SWL w0 blk ((ds.map srtP).flatten ++ srtP c ++ srtP r ++ []) wr) := Lib.hid (by have := HS.out; simp only [List.map_cons, List.map_nil, List.flatten_cons, List.flatten_nil, List.append_nil] at this; simpa only [List.append_nil] using this)
              clear HS
              by_cases hr0 : r = []
              · have hmn : ¬ m < n := by have h2 := h1.out; have h3 := hm.out; rw [hr0, List.length_nil] at h2; omega
                have HF : Hid (SWL w0 blk ((ds.map srtP).flatten ++ srtP (c ++ r)) wr) := Lib.hid (by
                  have h5 := HS2.out
                  have e0 : srtP [] = [] := List.mergeSort_nil
                  rw [hr0] at h5 ⊢
                  rw [List.append_nil c]
                  simpa [e0] using h5)
                clear hr0
                go_wp2
                go_roundw
                case rel => exact ⟨bs * 2, ds, c ++ r, by omega, by omega, by congr 1, HFB, HF⟩
                case measure => simp [intOf] <;> omega
              · have hrl : 0 < r.length := List.length_pos_iff.2 hr0
                have hmn : m < n := by have := h1.out; have := hm.out; omega
                have HI := Lib.hid (sym_all blk cap n d0 w0 HR.out.1 HR.out.2 hsz (n - A) A m n wr (ds.map srtP).flatten (srtP c) (srtP r) [] (Nat.le_refl _) HS2.out (by
                  simp only [List.length_append, flat_srt, srtP_len, List.length_nil]
                  have h3 := HC.out.1; have h4 := hlc.out; have := h1.out
                  omega) (by rw [flat_srt]; exact HC.out.1) (by rw [srtP_len, hlc.out]; exact hm.out) (by rw [srtP_len]; have := hm.out; have := h1.out; omega) (by rw [srtP_len, hlc.out]; exact hb0) (by rw [srtP_len]; exact hrl) (srtP_pw _) (srtP_pw _))
                clear hr0 hrl
                go_wp2_with fail
                refine HI.out.mono ?_
                rintro e w2 ⟨rfl, h⟩
                have HF : Hid (SWL w0 blk ((ds.map srtP).flatten ++ srtP (c ++ r)) w2) := Lib.hid (by
                  rw [List.append_nil, srtP_merge] at h
                  exact h)
                clear h
                go_wp2
                go_roundw
                case rel => exact ⟨bs * 2, ds, c ++ r, by omega, by omega, by congr 1, HFB, HF⟩
                case measure => simp [intOf] <;> omega
        · have HF : Hid (SWL w0 blk (srtP L) wr) := Lib.hid (by
            have h1 := HS.out
            have h2 := congrArg List.length HB.out.1
            rw [List.length_append, flat_all cs HB.out.2.1, HN.out] at h2
            match cs, HB, h1, h2 with
            | [], HB, h1, _ =>
              have := HB.out.1
              simp only [List.flatten_nil, List.nil_append] at this
              rw [this]
              simpa using h1
            | [c], HB, h1, h2 =>
              have hr : r = [] := List.eq_nil_of_length_eq_zero (by rw [List.length_singleton] at h2; omega)
              have := HB.out.1
              rw [hr] at this h1
              simp only [List.flatten_cons, List.flatten_nil, List.append_nil] at this
              rw [this]
              rw [show srtP [] = [] from List.mergeSort_nil] at h1
              simpa using h1
            | c :: c' :: cs, HB, _, h2 =>
              rw [List.length_cons, List.length_cons, Nat.add_mul, Nat.add_mul] at h2
              omega)
          clear HS HB
          go_wp2
          go_end0
          exact ⟨rfl, HF.out⟩
end Go.Proofs.Ytbknkahakmfhkaa
