/- match.Expand; packsaddleref07.Expand. -/
import Derived.Test.YtnfdbljeinlblaaMatH
namespace Go.Proofs.Ytnfdbljeinlblaa
open Go.RowKit
set_option linter.unusedVariables false
set_option linter.unusedSimpArgs false
def expR (most : Int) (ts : List Tok) : Int × List UInt8 := if most < 0 ∨ 16777216 < most then (1, []) else expT most ts []
def XPost (w : World) (most : Int) (ts : List Tok) (e : Ending) (w' : World) : Prop :=
  ∃ a n c, e = .returned (.tuple #[.slice a n c, .int .i64 (expR most ts).1]) ∧ (expR most ts).2.length = n ∧ n ≤ 16777216 ∧ Rd w' bE a (expR most ts).2 ∧ Below w.heap.size w w'
theorem xPost_bad {w w' : World} {most : Int} {ts : List Tok} {x : Int} (h : expR most ts = (x, [])) (hB : Below w.heap.size w w') : XPost w most ts (.returned (.tuple #[.slice none 0 0, .int .i64 x])) w' := by
  exact ⟨none, 0, 0, by rw [h], by rw [h]; rfl, by omega, by rw [h]; exact Rd.nil, hB⟩
theorem xPost_ok {w w' : World} {most : Int} {ts : List Tok} {a : Option Addr} {n c : Nat} {out : List UInt8} (h : expR most ts = (0, out)) (hl : out.length = n) (hn : n ≤ 16777216) (hr : Rd w' bE a out) (hB : Below w.heap.size w w') : XPost w most ts (.returned (.tuple #[.slice a n c, .int .i64 0])) w' := by
  exact ⟨a, n, c, by rw [h], by rw [h]; exact hl, hn, by rw [h]; exact hr, hB⟩
theorem own8_ne {w : World} {B r n c : Nat} {p : Option Addr} {l : List UInt8} {cs : Array Value} (h : Own w B 5 bE p n c l) (hb : Blk w r TT cs) : some r ≠ (Value.slice p n c).ownBlock := by
  intro e
  obtain ⟨⟨h1, h2⟩, h3⟩ := h
  rcases h2 with ⟨h4, h5⟩ | ⟨g, cap, cur, hv, hg, hh, _⟩
  · simp only [Value.slice.injEq] at h4
    obtain ⟨rfl, _⟩ := h4
    simp [Value.ownBlock] at e
  · simp only [Value.slice.injEq] at hv
    obtain ⟨rfl, _⟩ := hv
    simp [Value.ownBlock] at e
    subst e
    rw [hb] at hh
    simp at hh
    exact absurd hh.2 (by decide)
theorem rightT_range {q : Tok} (h : rightT q = true) : (q.2.1 = 0 ∧ q.2.2 = 0) ∨ (q.2.1 ≠ 0 ∧ 3 ≤ q.2.1 ∧ q.2.1 ≤ 258 ∧ 1 ≤ q.2.2 ∧ q.2.2 ≤ 32768 ∧ q.1 = 0) := by
  unfold rightT at h
  by_cases h0 : q.2.1 = 0
  · rw [if_pos h0] at h; exact .inl ⟨h0, by simpa using h⟩
  · rw [if_neg h0] at h
    simp only [Bool.and_eq_true, decide_eq_true_eq] at h
    exact .inr ⟨h0, by omega⟩
set_option maxRecDepth 100000 in
set_option maxHeartbeats 16000000 in
theorem mExpand_any (a : Option Addr) (n c : Nat) (ts : List Tok) (most : Int) (w : World) (hn : n ≤ 1000000) (hp : RdT w a n ts) (hi : ∀ q ∈ ts, 0 ≤ q.1 ∧ q.1 < 256) :
  Calls Try.prog 32 #[.slice a n c, .int .i64 most] w (XPost w most ts) := by
  have HL := Lib.hid hp.1
  have HP := Lib.hid hp
  have HIN := Lib.hid hi
  clear hp hi
  go_enter Try.func32, Try.ntmps32
  by_cases hbad : most < 0 ∨ 16777216 < most
  · have HF := Lib.hid (xPost_bad (w := w) (ts := ts) (by unfold expR; rw [if_pos hbad]) (Below.refl w.heap.size w))
    by_cases h0 : most < 0
    · clear hbad
      go_wp2
      go_ret2
      exact HF.out
    · have h1 : 16777216 < most := by omega
      clear hbad
      go_wp2
      go_ret2
      exact HF.out
  · have hm0 : ¬ most < 0 := by omega
    have hm1 : ¬ 16777216 < most := by omega
    have HE : Hid (expR most ts = expT most ts []) := Lib.hid (by unfold expR; rw [if_neg hbad])
    clear hbad
    obtain ⟨mo, rfl⟩ := Int.eq_ofNat_of_zero_le (show 0 ≤ most by omega)
    have hmo : mo ≤ 16777216 := by omega
    go_wp2
    go_loopw [6, 17] (fun xo xi wr => ∃ (k n' c' : Nat) (a' : Option Addr) (out : List UInt8), k ≤ n ∧ xi = .int .i64 k ∧ xo = .slice a' n' c' ∧ n' ≤ mo ∧ Own wr w.heap.size 5 bE a' n' c' out ∧ expT (mo : Int) (ts.drop k) out = expR (mo : Int) ts ∧ Below w.heap.size w wr) (fun _ xi _ => n - (intOf xi).toNat)
    case atStart => exact ⟨0, 0, 0, none, [], by omega, rfl, rfl, by omega, Own.nil, by rw [List.drop_zero, HE.out], Below.refl _ _⟩
    case round =>
      clear HE
      obtain ⟨k, n', c', a', out, hk, rfl, rfl, hn', hown, hrun, hB⟩ := hrel
      by_cases hlt : k < n
      · have hkl : k < ts.length := by rw [HL.out]; exact hlt
        obtain ⟨b, off, rfl, hc0, hc1, hc2⟩ := (HP.out.below hB).at hkl
        have hii := HIN.out ts[k] (List.getElem_mem hkl)
        rw [List.drop_eq_getElem_cons hkl, expT] at hrun
        have HRUN := Lib.hid hrun
        clear hrun
        generalize ts[k] = q at hc0 hc1 hc2 hii HRUN
        obtain ⟨x, y, z⟩ := q
        simp only at hc0 hc1 hc2 hii HRUN
        have HII := Lib.hid hii
        clear hii
        have hblk := Blk.new wr TT #[.int .u8 x, .int .i64 y, .int .i64 z]
        have hB1 := hB.alloc hB.size (.cells #[.int .u8 x, .int .i64 y, .int .i64 z] TT)
        have hown1 := hown.alloc (.cells #[.int .u8 x, .int .i64 y, .int .i64 z] TT)
        have HB := Lib.hid (And.intro hblk (And.intro hown1 hB1))
        have HLEN := Lib.hid hown.len
        clear hblk hown1 hB1 hown hB
        obtain ⟨r, hr⟩ : ∃ r, r = wr.heap.size := ⟨_, rfl⟩
        go_wp2_with fail
        clear hc0 hc1 hc2
        rw [← hr] at HB ⊢
        clear hr
        generalize wr.alloc (.cells #[.int .u8 x, .int .i64 y, .int .i64 z] TT) = w1 at HB ⊢
        have hd0 := HB.out.1.cell (i := 0) rfl
        have hd1 := HB.out.1.cell (i := 1) rfl
        have hd2 := HB.out.1.cell (i := 2) rfl
        refine (mRight_any x y z w1).mono ?_
        rintro e w2 ⟨rfl, hBR⟩
        have HO := Lib.hid (And.intro (HB.out.1.below hBR) (And.intro (HB.out.2.1.below hBR) (HB.out.2.2.trans (hBR.mono HB.out.2.2.size))))
        clear HB hd0 hd1 hd2 hBR
        have d0 := HO.out.1.cell (i := 0) rfl
        have d1 := HO.out.1.cell (i := 1) rfl
        have d2 := HO.out.1.cell (i := 2) rfl
        by_cases hrt : rightT (x, y, z) = true
        · rw [hrt]
          have hrun := HRUN.out
          rw [if_neg (by rw [hrt]; simp)] at hrun
          have hrg := rightT_range hrt
          simp only at hrg
          clear HRUN hrt
          by_cases hdist : z > (n' : Int)
          · have HF := Lib.hid (xPost_bad (w := w) (ts := ts) (most := (mo : Int)) (by rw [← hrun, if_pos (by rw [HLEN.out]; exact hdist)]) HO.out.2.2)
            clear hrun HO
            go_wp2
            go_ret2
            exact HF.out
          · rw [if_neg (by rw [HLEN.out]; exact hdist)] at hrun
            by_cases hy0 : y = 0
            · have hmax : max y 1 = 1 := by omega
              have hy1 : y < 1 := by omega
              rw [hmax] at hrun
              by_cases hlong : 1 > (mo : Int) - n'
              · have HF := Lib.hid (xPost_bad (w := w) (ts := ts) (most := (mo : Int)) (by rw [← hrun, if_pos (by rw [HLEN.out]; exact hlong)]) HO.out.2.2)
                clear hrun HO hmax hy0
                go_wp2
                go_ret2
                exact HF.out
              · rw [if_neg (by rw [HLEN.out]; exact hlong)] at hrun
                have hcap : n' + 1 ≤ mo := by omega
                have hz0 : z = 0 := by omega
                have hxr := HII.out
                obtain ⟨xb, rfl⟩ : ∃ u : UInt8, x = (u.toNat : Int) := ⟨UInt8.ofNat x.toNat, by have : (UInt8.ofNat x.toNat).toNat = x.toNat := UInt8.toNat_ofNat_of_lt' (show x.toNat < 256 by omega); omega⟩
                rw [if_pos hy0] at hrun
                simp only [Int.toNat_natCast, UInt8.ofNat_toNat] at hrun
                have HR2 := Lib.hid hrun
                have hyb : (y == 0) = true := beq_iff_eq.2 hy0
                clear hrun hrg HLEN hmax hxr HII
                obtain ⟨d, hd⟩ : ∃ d : Nat, z = (d : Int) := ⟨z.toNat, by omega⟩
                obtain ⟨ln, hln⟩ : ∃ m : Nat, y = (m : Int) := ⟨y.toNat, by omega⟩
                subst hd
                subst hln
                try simp only [Int.toNat_natCast] at HR2
                obtain ⟨total, htot⟩ : ∃ t, out ++ [xb] = t := ⟨_, rfl⟩
                rw [htot] at HR2
                have HTOT := Lib.hid htot
                have HCAP := Lib.hid hcap
                clear htot hcap
                have hsz := HO.out.2.2.size
                have hbk0 := HO.out.1
                go_wp2_with (at_builtin; refine wpList_push slByte rfl _ _ rfl rfl rfl HO.out.2.1 xb ⟨_, 0, none⟩ rfl (cell_push rfl _ _) rfl (by omega) (by unfold maxLen; omega) hsz ?_; intro a3 c3 w3 hown3 hg3; have hbk3 := HO.out.1.grown hg3 (own8_ne HO.out.2.1 HO.out.1); have d0 := hbk3.cell (i := 0) rfl; have d1 := hbk3.cell (i := 1) rfl; have d2 := hbk3.cell (i := 2) rfl; have HI := Lib.hid (And.intro hown3 (And.intro hbk3 (HO.out.2.1.step HO.out.2.2 hg3 hsz))); clear hbk3 hown3 hg3)
                clear d0 d1 d2 hbk0 HO
                go_loopw [6, 51] (fun x6 xi wr => ∃ (j n2 c2 : Nat) (a2 : Option Addr) (out2 : List UInt8), j ≤ ln ∧ xi = .int .i64 j ∧ x6 = .slice a2 n2 c2 ∧ n2 = (n' + 1) + j ∧ Own wr w.heap.size 5 bE a2 n2 c2 out2 ∧ copyGo d (ln - j) out2 = total ∧ Blk wr r TT #[.int .u8 (xb.toNat : Int), .int .i64 (ln : Int), .int .i64 (d : Int)] ∧ Below w.heap.size w wr) (fun _ xi _ => ln - (intOf xi).toNat)
                case atStart => exact ⟨0, (n' + 1), c3, a3, _, by omega, rfl, rfl, rfl, HI.out.1, by rw [show ln - 0 = 0 by omega]; exact HTOT.out, HI.out.2.1, HI.out.2.2⟩
                case round =>
                  clear HI HTOT
                  obtain ⟨j, n2, c2, a2, out2, hj, rfl, rfl, hn2, hown, hcp, hblk, hB⟩ := hrel
                  have k1 := hblk.cell (i := 1) rfl
                  have k2 := hblk.cell (i := 2) rfl
                  have HBK := Lib.hid hblk
                  by_cases hjl : j < ln
                  · exfalso; omega
                  · have hje : j = ln := by omega
                    subst hje
                    rw [Nat.sub_self] at hcp
                    have hlt2 := hown.len
                    rw [show copyGo d 0 out2 = out2 from rfl] at hcp
                    subst hcp
                    have HB := Lib.hid (And.intro hown hB)
                    have hbnd := HCAP.out
                    clear hown hB hblk
                    go_wp2
                    go_roundw
                    case rel => exact ⟨k + 1, n2, c2, a2, out2, by omega, by go_num, rfl, by omega, HB.out.1, HR2.out, HB.out.2⟩
                    case measure => simp [intOf] <;> omega
            · have hyy : 3 ≤ y ∧ y ≤ 258 := by omega
              have hmax : max y 1 = y := by omega
              have hy1 : ¬ y < 1 := by omega
              rw [hmax] at hrun
              by_cases hlong : y > (mo : Int) - n'
              · have HF := Lib.hid (xPost_bad (w := w) (ts := ts) (most := (mo : Int)) (by rw [← hrun, if_pos (by rw [HLEN.out]; exact hlong)]) HO.out.2.2)
                clear hrun HO hmax hy0
                go_wp2
                go_ret2
                exact HF.out
              · rw [if_neg (by rw [HLEN.out]; exact hlong)] at hrun
                have hcap : (n' : Int) + y ≤ mo := by omega
                have hx0 : x = 0 := by omega
                subst hx0
                rw [if_neg hy0] at hrun
                have hzz : 1 ≤ z ∧ z ≤ n' := by omega
                have HR2 := Lib.hid hrun
                have hyb : (y == 0) = false := beq_eq_false_iff_ne.2 hy0
                clear hrun hrg hy0 hmax HII
                obtain ⟨d, hd⟩ : ∃ d : Nat, z = (d : Int) := ⟨z.toNat, by omega⟩
                obtain ⟨ln, hln⟩ : ∃ m : Nat, y = (m : Int) := ⟨y.toNat, by omega⟩
                subst hd
                subst hln
                try simp only [Int.toNat_natCast] at HR2
                obtain ⟨total, htot⟩ : ∃ t, copyGo d ln out = t := ⟨_, rfl⟩
                rw [htot] at HR2
                have HTOT := Lib.hid htot
                have HCAP := Lib.hid hcap
                clear htot hcap
                have HI := Lib.hid (And.intro HO.out.2.1 (And.intro HO.out.1 HO.out.2.2))
                have hnd : ¬ n' < d := by omega
                have hd1 : 1 ≤ d := by omega
                clear HO hzz hdist
                go_wp2
                go_loopw [6, 51] (fun x6 xi wr => ∃ (j n2 c2 : Nat) (a2 : Option Addr) (out2 : List UInt8), j ≤ ln ∧ xi = .int .i64 j ∧ x6 = .slice a2 n2 c2 ∧ n2 = n' + j ∧ Own wr w.heap.size 5 bE a2 n2 c2 out2 ∧ copyGo d (ln - j) out2 = total ∧ Blk wr r TT #[.int .u8 0, .int .i64 (ln : Int), .int .i64 (d : Int)] ∧ Below w.heap.size w wr) (fun _ xi _ => ln - (intOf xi).toNat)
                case atStart => exact ⟨0, n', c', a', _, by omega, rfl, rfl, rfl, HI.out.1, HTOT.out, HI.out.2.1, HI.out.2.2⟩
                case round =>
                  clear HI HTOT
                  obtain ⟨j, n2, c2, a2, out2, hj, rfl, rfl, hn2, hown, hcp, hblk, hB⟩ := hrel
                  have k1 := hblk.cell (i := 1) rfl
                  have k2 := hblk.cell (i := 2) rfl
                  have HBK := Lib.hid hblk
                  by_cases hjl : j < ln
                  · skip
                    obtain ⟨e, he⟩ : ∃ e, n2 = e + d := ⟨n2 - d, by omega⟩
                    subst he
                    have hle := hown.len
                    obtain ⟨g, yb, rfl, -, -, hyb, hcy, -⟩ := hown.at (i := e) (by omega)
                    have hgy : out2.getD (out2.length - d) 0 = yb := by rw [hle, Nat.add_sub_cancel, List.getD_eq_getElem?_getD, hyb]; rfl
                    obtain ⟨k, hk⟩ : ∃ k, ln - j = k + 1 := ⟨ln - j - 1, by omega⟩
                    rw [hk, copyGo, hgy] at hcp
                    have HCP := Lib.hid (show copyGo d (ln - (j + 1)) (out2 ++ [yb]) = total by rw [show ln - (j + 1) = k by omega]; exact hcp)
                    have hcy' := hcy
                    unfold bE at hcy'
                    have hsz := hB.size
                    have HOWN := Lib.hid hown
                    have HBB := Lib.hid hB
                    clear hblk hyb hgy hcp hk hle hcy hown hB
                    have hbnd : e + d + 1 ≤ 16777216 := by have := HCAP.out; omega
                    have HN2 := Lib.hid hn2
                    clear hn2
                    go_wp2_with (at_builtin; go_loud (refine wpList_push slByte rfl _ _ rfl rfl rfl HOWN.out yb ⟨_, 0, none⟩ rfl (cell_push rfl _ _) rfl (by omega) (by unfold maxLen; omega) hsz ?_; intro a3 c3 w3 hown3 hg3))
                    have hB3 := HOWN.out.step HBB.out hg3 hsz
                    have hbk3 := HBK.out.grown hg3 (own8_ne HOWN.out HBK.out)
                    go_roundw
                    case rel => exact ⟨j + 1, e + d + 1, c3, a3, _, by omega, by go_num, rfl, by have := HN2.out; omega, hown3, HCP.out, hbk3, hB3⟩
                    case measure => simp [intOf] <;> omega
                  · have hje : j = ln := by omega
                    subst hje
                    rw [Nat.sub_self] at hcp
                    have hlt2 := hown.len
                    rw [show copyGo d 0 out2 = out2 from rfl] at hcp
                    subst hcp
                    have HB := Lib.hid (And.intro hown hB)
                    have hbnd := HCAP.out
                    clear hown hB hblk
                    go_wp2
                    go_roundw
                    case rel => exact ⟨k + 1, n2, c2, a2, out2, by omega, by go_num, rfl, by omega, HB.out.1, HR2.out, HB.out.2⟩
                    case measure => simp [intOf] <;> omega
        · have hrt' : rightT (x, y, z) = false := by simpa using hrt
          have HF := Lib.hid (xPost_bad (w := w) (ts := ts) (most := (mo : Int)) (by rw [← HRUN.out, if_pos hrt']) HO.out.2.2)
          rw [hrt']
          clear hrt hrt' HRUN HO
          go_wp2
          go_ret2
          exact HF.out
      · have hkn : k = n := by omega
        rw [hkn, ← HL.out, List.drop_length, expT] at hrun
        have HF := Lib.hid (xPost_ok (w := w) (c := c') hrun.symm hown.len (by omega) hown.rd hB)
        clear hrun hown hB
        subst hkn
        go_wp2
        go_ret2
        exact HF.out
set_option maxRecDepth 100000 in
set_option maxHeartbeats 16000000 in
theorem rExpand_any (a : Option Addr) (n c : Nat) (ts : List Tok) (most : Int) (w : World) (hn : n ≤ 1000000) (hp : RdT w a n ts) (hi : ∀ q ∈ ts, 0 ≤ q.1 ∧ q.1 < 256) :
  Calls Try.prog 33 #[.slice a n c, .int .i64 most] w (XPost w most ts) := by
  have HL := Lib.hid hp.1
  have HP := Lib.hid hp
  have HIN := Lib.hid hi
  clear hp hi
  go_enter Try.func33, Try.ntmps33
  by_cases hbad : most < 0 ∨ 16777216 < most
  · have HF := Lib.hid (xPost_bad (w := w) (ts := ts) (by unfold expR; rw [if_pos hbad]) (Below.refl w.heap.size w))
    by_cases h0 : most < 0
    · clear hbad
      go_wp2
      go_ret2
      exact HF.out
    · have h1 : 16777216 < most := by omega
      clear hbad
      go_wp2
      go_ret2
      exact HF.out
  · have hm0 : ¬ most < 0 := by omega
    have hm1 : ¬ 16777216 < most := by omega
    have HE : Hid (expR most ts = expT most ts []) := Lib.hid (by unfold expR; rw [if_neg hbad])
    clear hbad
    obtain ⟨mo, rfl⟩ := Int.eq_ofNat_of_zero_le (show 0 ≤ most by omega)
    have hmo : mo ≤ 16777216 := by omega
    go_wp2
    go_loopw [6, 18] (fun xo xi wr => ∃ (k n' c' : Nat) (a' : Option Addr) (out : List UInt8), k ≤ n ∧ xi = .int .i64 k ∧ xo = .slice a' n' c' ∧ n' ≤ mo ∧ Own wr w.heap.size 5 bE a' n' c' out ∧ expT (mo : Int) (ts.drop k) out = expR (mo : Int) ts ∧ Below w.heap.size w wr) (fun _ xi _ => n - (intOf xi).toNat)
    case atStart => exact ⟨0, 0, 0, none, [], by omega, rfl, rfl, by omega, Own.nil, by rw [List.drop_zero, HE.out], Below.refl _ _⟩
    case round =>
      clear HE
      obtain ⟨k, n', c', a', out, hk, rfl, rfl, hn', hown, hrun, hB⟩ := hrel
      by_cases hlt : k < n
      · have hkl : k < ts.length := by rw [HL.out]; exact hlt
        obtain ⟨b, off, rfl, hc0, hc1, hc2⟩ := (HP.out.below hB).at hkl
        have hii := HIN.out ts[k] (List.getElem_mem hkl)
        rw [List.drop_eq_getElem_cons hkl, expT] at hrun
        have HRUN := Lib.hid hrun
        clear hrun
        generalize ts[k] = q at hc0 hc1 hc2 hii HRUN
        obtain ⟨x, y, z⟩ := q
        simp only at hc0 hc1 hc2 hii HRUN
        have HII := Lib.hid hii
        clear hii
        have hblk := Blk.new wr TT #[.int .u8 x, .int .i64 y, .int .i64 z]
        have hB1 := hB.alloc hB.size (.cells #[.int .u8 x, .int .i64 y, .int .i64 z] TT)
        have hown1 := hown.alloc (.cells #[.int .u8 x, .int .i64 y, .int .i64 z] TT)
        have HB := Lib.hid (And.intro hblk (And.intro hown1 hB1))
        have HLEN := Lib.hid hown.len
        clear hblk hown1 hB1 hown hB
        obtain ⟨r, hr⟩ : ∃ r, r = wr.heap.size := ⟨_, rfl⟩
        go_wp2_with fail
        clear hc0 hc1 hc2
        rw [← hr] at HB ⊢
        clear hr
        generalize wr.alloc (.cells #[.int .u8 x, .int .i64 y, .int .i64 z] TT) = w1 at HB ⊢
        have hd0 := HB.out.1.cell (i := 0) rfl
        have hd1 := HB.out.1.cell (i := 1) rfl
        have hd2 := HB.out.1.cell (i := 2) rfl
        refine (rRight_any x y z w1).mono ?_
        rintro e w2 ⟨rfl, hBR⟩
        have HO := Lib.hid (And.intro (HB.out.1.below hBR) (And.intro (HB.out.2.1.below hBR) (HB.out.2.2.trans (hBR.mono HB.out.2.2.size))))
        clear HB hd0 hd1 hd2 hBR
        have d0 := HO.out.1.cell (i := 0) rfl
        have d1 := HO.out.1.cell (i := 1) rfl
        have d2 := HO.out.1.cell (i := 2) rfl
        by_cases hrt : rightT (x, y, z) = true
        · rw [hrt]
          have hrun := HRUN.out
          rw [if_neg (by rw [hrt]; simp)] at hrun
          have hrg := rightT_range hrt
          simp only at hrg
          clear HRUN hrt
          by_cases hdist : z > (n' : Int)
          · have HF := Lib.hid (xPost_bad (w := w) (ts := ts) (most := (mo : Int)) (by rw [← hrun, if_pos (by rw [HLEN.out]; exact hdist)]) HO.out.2.2)
            clear hrun HO
            go_wp2
            go_ret2
            exact HF.out
          · rw [if_neg (by rw [HLEN.out]; exact hdist)] at hrun
            by_cases hy0 : y = 0
            · have hmax : max y 1 = 1 := by omega
              have hy1 : y < 1 := by omega
              rw [hmax] at hrun
              by_cases hlong : 1 > (mo : Int) - n'
              · have HF := Lib.hid (xPost_bad (w := w) (ts := ts) (most := (mo : Int)) (by rw [← hrun, if_pos (by rw [HLEN.out]; exact hlong)]) HO.out.2.2)
                clear hrun HO hmax hy0
                go_wp2
                go_ret2
                exact HF.out
              · rw [if_neg (by rw [HLEN.out]; exact hlong)] at hrun
                have hcap : n' + 1 ≤ mo := by omega
                have hz0 : z = 0 := by omega
                have hxr := HII.out
                obtain ⟨xb, rfl⟩ : ∃ u : UInt8, x = (u.toNat : Int) := ⟨UInt8.ofNat x.toNat, by have : (UInt8.ofNat x.toNat).toNat = x.toNat := UInt8.toNat_ofNat_of_lt' (show x.toNat < 256 by omega); omega⟩
                rw [if_pos hy0] at hrun
                simp only [Int.toNat_natCast, UInt8.ofNat_toNat] at hrun
                have HR2 := Lib.hid hrun
                have hyb : (y == 0) = true := beq_iff_eq.2 hy0
                clear hrun hrg HLEN hmax hxr HII
                obtain ⟨d, hd⟩ : ∃ d : Nat, z = (d : Int) := ⟨z.toNat, by omega⟩
                obtain ⟨ln, hln⟩ : ∃ m : Nat, y = (m : Int) := ⟨y.toNat, by omega⟩
                subst hd
                subst hln
                try simp only [Int.toNat_natCast] at HR2
                obtain ⟨total, htot⟩ : ∃ t, out ++ [xb] = t := ⟨_, rfl⟩
                rw [htot] at HR2
                have HTOT := Lib.hid htot
                have HCAP := Lib.hid hcap
                clear htot hcap
                have hsz := HO.out.2.2.size
                have hbk0 := HO.out.1
                go_wp2_with (at_builtin; refine wpList_push slByte rfl _ _ rfl rfl rfl HO.out.2.1 xb ⟨_, 0, none⟩ rfl (cell_push rfl _ _) rfl (by omega) (by unfold maxLen; omega) hsz ?_; intro a3 c3 w3 hown3 hg3; have hbk3 := HO.out.1.grown hg3 (own8_ne HO.out.2.1 HO.out.1); have d0 := hbk3.cell (i := 0) rfl; have d1 := hbk3.cell (i := 1) rfl; have d2 := hbk3.cell (i := 2) rfl; have HI := Lib.hid (And.intro hown3 (And.intro hbk3 (HO.out.2.1.step HO.out.2.2 hg3 hsz))); clear hbk3 hown3 hg3)
                clear d0 d1 d2 hbk0 HO
                go_loopw [6, 9] (fun x6 xi wr => ∃ (j n2 c2 : Nat) (a2 : Option Addr) (out2 : List UInt8), j ≤ ln ∧ xi = .int .i64 j ∧ x6 = .slice a2 n2 c2 ∧ n2 = (n' + 1) + j ∧ Own wr w.heap.size 5 bE a2 n2 c2 out2 ∧ copyGo d (ln - j) out2 = total ∧ Blk wr r TT #[.int .u8 (xb.toNat : Int), .int .i64 (ln : Int), .int .i64 (d : Int)] ∧ Below w.heap.size w wr) (fun _ xi _ => ln - (intOf xi).toNat)
                case atStart => exact ⟨0, (n' + 1), c3, a3, _, by omega, rfl, rfl, rfl, HI.out.1, by rw [show ln - 0 = 0 by omega]; exact HTOT.out, HI.out.2.1, HI.out.2.2⟩
                case round =>
                  clear HI HTOT
                  obtain ⟨j, n2, c2, a2, out2, hj, rfl, rfl, hn2, hown, hcp, hblk, hB⟩ := hrel
                  have k1 := hblk.cell (i := 1) rfl
                  have k2 := hblk.cell (i := 2) rfl
                  have HBK := Lib.hid hblk
                  by_cases hjl : j < ln
                  · exfalso; omega
                  · have hje : j = ln := by omega
                    subst hje
                    rw [Nat.sub_self] at hcp
                    have hlt2 := hown.len
                    rw [show copyGo d 0 out2 = out2 from rfl] at hcp
                    subst hcp
                    have HB := Lib.hid (And.intro hown hB)
                    have hbnd := HCAP.out
                    clear hown hB hblk
                    go_wp2
                    go_roundw
                    case rel => exact ⟨k + 1, n2, c2, a2, out2, by omega, by go_num, rfl, by omega, HB.out.1, HR2.out, HB.out.2⟩
                    case measure => simp [intOf] <;> omega
            · have hyy : 3 ≤ y ∧ y ≤ 258 := by omega
              have hmax : max y 1 = y := by omega
              have hy1 : ¬ y < 1 := by omega
              rw [hmax] at hrun
              by_cases hlong : y > (mo : Int) - n'
              · have HF := Lib.hid (xPost_bad (w := w) (ts := ts) (most := (mo : Int)) (by rw [← hrun, if_pos (by rw [HLEN.out]; exact hlong)]) HO.out.2.2)
                clear hrun HO hmax hy0
                go_wp2
                go_ret2
                exact HF.out
              · rw [if_neg (by rw [HLEN.out]; exact hlong)] at hrun
                have hcap : (n' : Int) + y ≤ mo := by omega
                have hx0 : x = 0 := by omega
                subst hx0
                rw [if_neg hy0] at hrun
                have hzz : 1 ≤ z ∧ z ≤ n' := by omega
                have HR2 := Lib.hid hrun
                have hyb : (y == 0) = false := beq_eq_false_iff_ne.2 hy0
                clear hrun hrg hy0 hmax HII
                obtain ⟨d, hd⟩ : ∃ d : Nat, z = (d : Int) := ⟨z.toNat, by omega⟩
                obtain ⟨ln, hln⟩ : ∃ m : Nat, y = (m : Int) := ⟨y.toNat, by omega⟩
                subst hd
                subst hln
                try simp only [Int.toNat_natCast] at HR2
                obtain ⟨total, htot⟩ : ∃ t, copyGo d ln out = t := ⟨_, rfl⟩
                rw [htot] at HR2
                have HTOT := Lib.hid htot
                have HCAP := Lib.hid hcap
                clear htot hcap
                have HI := Lib.hid (And.intro HO.out.2.1 (And.intro HO.out.1 HO.out.2.2))
                have hnd : ¬ n' < d := by omega
                have hd1 : 1 ≤ d := by omega
                clear HO hzz hdist
                go_wp2
                go_loopw [6, 9] (fun x6 xi wr => ∃ (j n2 c2 : Nat) (a2 : Option Addr) (out2 : List UInt8), j ≤ ln ∧ xi = .int .i64 j ∧ x6 = .slice a2 n2 c2 ∧ n2 = n' + j ∧ Own wr w.heap.size 5 bE a2 n2 c2 out2 ∧ copyGo d (ln - j) out2 = total ∧ Blk wr r TT #[.int .u8 0, .int .i64 (ln : Int), .int .i64 (d : Int)] ∧ Below w.heap.size w wr) (fun _ xi _ => ln - (intOf xi).toNat)
                case atStart => exact ⟨0, n', c', a', _, by omega, rfl, rfl, rfl, HI.out.1, HTOT.out, HI.out.2.1, HI.out.2.2⟩
                case round =>
                  clear HI HTOT
                  obtain ⟨j, n2, c2, a2, out2, hj, rfl, rfl, hn2, hown, hcp, hblk, hB⟩ := hrel
                  have k1 := hblk.cell (i := 1) rfl
                  have k2 := hblk.cell (i := 2) rfl
                  have HBK := Lib.hid hblk
                  by_cases hjl : j < ln
                  · skip
                    obtain ⟨e, he⟩ : ∃ e, n2 = e + d := ⟨n2 - d, by omega⟩
                    subst he
                    have hle := hown.len
                    obtain ⟨g, yb, rfl, -, -, hyb, hcy, -⟩ := hown.at (i := e) (by omega)
                    have hgy : out2.getD (out2.length - d) 0 = yb := by rw [hle, Nat.add_sub_cancel, List.getD_eq_getElem?_getD, hyb]; rfl
                    obtain ⟨k, hk⟩ : ∃ k, ln - j = k + 1 := ⟨ln - j - 1, by omega⟩
                    rw [hk, copyGo, hgy] at hcp
                    have HCP := Lib.hid (show copyGo d (ln - (j + 1)) (out2 ++ [yb]) = total by rw [show ln - (j + 1) = k by omega]; exact hcp)
                    have hcy' := hcy
                    unfold bE at hcy'
                    have hsz := hB.size
                    have HOWN := Lib.hid hown
                    have HBB := Lib.hid hB
                    clear hblk hyb hgy hcp hk hle hcy hown hB
                    have hbnd : e + d + 1 ≤ 16777216 := by have := HCAP.out; omega
                    have HN2 := Lib.hid hn2
                    clear hn2
                    go_wp2_with (at_builtin; go_loud (refine wpList_push slByte rfl _ _ rfl rfl rfl HOWN.out yb ⟨_, 0, none⟩ rfl (cell_push rfl _ _) rfl (by omega) (by unfold maxLen; omega) hsz ?_; intro a3 c3 w3 hown3 hg3))
                    have hB3 := HOWN.out.step HBB.out hg3 hsz
                    have hbk3 := HBK.out.grown hg3 (own8_ne HOWN.out HBK.out)
                    go_roundw
                    case rel => exact ⟨j + 1, e + d + 1, c3, a3, _, by omega, by go_num, rfl, by have := HN2.out; omega, hown3, HCP.out, hbk3, hB3⟩
                    case measure => simp [intOf] <;> omega
                  · have hje : j = ln := by omega
                    subst hje
                    rw [Nat.sub_self] at hcp
                    have hlt2 := hown.len
                    rw [show copyGo d 0 out2 = out2 from rfl] at hcp
                    subst hcp
                    have HB := Lib.hid (And.intro hown hB)
                    have hbnd := HCAP.out
                    clear hown hB hblk
                    go_wp2
                    go_roundw
                    case rel => exact ⟨k + 1, n2, c2, a2, out2, by omega, by go_num, rfl, by omega, HB.out.1, HR2.out, HB.out.2⟩
                    case measure => simp [intOf] <;> omega
        · have hrt' : rightT (x, y, z) = false := by simpa using hrt
          have HF := Lib.hid (xPost_bad (w := w) (ts := ts) (most := (mo : Int)) (by rw [← HRUN.out, if_pos hrt']) HO.out.2.2)
          rw [hrt']
          clear hrt hrt' HRUN HO
          go_wp2
          go_ret2
          exact HF.out
      · have hkn : k = n := by omega
        rw [hkn, ← HL.out, List.drop_length, expT] at hrun
        have HF := Lib.hid (xPost_ok (w := w) (c := c') hrun.symm hown.len (by omega) hown.rd hB)
        clear hrun hown hB
        subst hkn
        go_wp2
        go_ret2
        exact HF.out
end Go.Proofs.Ytnfdbljeinlblaa
