/- MatchFar. -/
import Derived.Test.YtnfdbljeinlblaaMatJ
import Derived.Test.YtnfdbljeinlblaaOwn2
import Derived.Laws.CopyOwn
namespace Go.Proofs.Ytnfdbljeinlblaa
open Go.RowKit
set_option linter.unusedVariables false
set_option linter.unusedSimpArgs false

section
variable {P : Program} {w : World} {ops : Array Oper} {rest : List Oper} {o : Oper} {a : Act} {Q : Exit → Act → World → Prop}
theorem wpList_copyO {T e : TypeId} {z : Value} {bytes : Nat} (hT : SlT P T e z 1 bytes) (hgd : o.guard = none) (d s : Operand)
    (ho : o.op = .call { callee := .builtin .copy, args := #[d, s], argTypes := #[T, T] }) {α : Type} {E : α → Value} {base g n c b off m c' : Nat} {l k : List α}
    (hd : a.eval d = .slice (some ⟨g, 0, none⟩) n c) (hown : Own w base e E (some ⟨g, 0, none⟩) n c l)
    (hs : a.eval s = .slice (some ⟨b, off, none⟩) m c') (hk : k.length = m) (hmn : m ≤ n) (hr : Rd w E (some ⟨b, off, none⟩) k) (h1 : ∀ y ∈ k, (E y).oneCell' = true)
    (h : ∀ w', Own w' base e E (some ⟨g, 0, none⟩) n c (k ++ l.drop m) → w.grownBy w' (some g) → wpList P ops Q rest (a.put o.dst (goInt m)) w') :
    wpList P ops Q (o :: rest) a w := by
  obtain ⟨ti, hti, hz0, hz2, hz3⟩ := info_parts hT.info
  obtain ⟨⟨h2, h3⟩, h4⟩ := hown
  rcases h3 with ⟨h5, h6⟩ | ⟨g', cap, cur, hv, hg, hh, hnc, hcm, hcs, htake⟩
  · simp at h5
  · simp only [Value.slice.injEq, Option.some.injEq, Addr.mk.injEq] at hv
    obtain ⟨⟨rfl, -, -⟩, -, rfl⟩ := hv
    have hcs' : (k.map E).length = Nat.min m n := by rw [List.length_map, hk]; exact (Nat.min_eq_left hmn).symm
    refine wpList_copy_own hgd d s T T ho e hT.under (by rw [hti]; simp; omega) g 0 n c ⟨b, off, none⟩ m c' hd hs cur e hh (k.map E) hcs' ?_ (by rw [List.length_map, hk]; omega) ?_ ?_
    · intro j v hv
      rw [List.getElem?_map] at hv
      obtain ⟨y, hy, rfl⟩ := Option.map_eq_some_iff.1 hv
      rcases hr with rfl | ⟨b', off', hab, hc⟩
      · simp at hy
      · simp only [Option.some.injEq, Addr.mk.injEq, and_true] at hab
        obtain ⟨rfl, rfl⟩ := hab
        rw [Addr.add_lit]
        exact hc j y hy
    · intro v hv
      obtain ⟨y, hy, rfl⟩ := List.mem_map.1 hv
      exact h1 y hy
    · have hlen : (k.map E).length = m := by rw [List.length_map, hk]
      rw [hlen]
      refine h _ ⟨⟨?_, .inr ⟨g, c, _, rfl, hg, setRow_heap w g cur _ e (0, 0) hh, hnc, hcm, ?_, ?_⟩⟩, ?_⟩ (grownBy_setRow w g _)
      · simp; omega
      · simp only [List.take_zero, List.nil_append, Nat.zero_add]
        simp
        omega
      · simp only [List.take_zero, List.nil_append, Nat.zero_add]
        rw [List.take_append, List.take_of_length_le (by rw [hlen]; omega), hlen, ← List.drop_take, htake, List.map_append, List.map_drop]
      · simp; omega
end
def farL (x : UInt8) (l : List UInt8) : List UInt8 := ([x, 201, 202, 250] ++ l.drop 4) ++ [x, 201, 202, 250]
section
variable {x : UInt8} {l : List UInt8} {n : Nat}
theorem farL_len (hl : l.length = n) (h8 : 8 ≤ n) : (farL x l).length = n + 4 := by simp [farL]; omega
theorem far_lo (i : Nat) (hi : i < 4) : (farL x l)[i]? = [x, 201, 202, 250][i]? := by
  unfold farL
  rw [List.append_assoc, List.getElem?_append_left (by simpa using hi)]
theorem far_hi (hl : l.length = n) (h8 : 8 ≤ n) (i : Nat) : (farL x l)[n + i]? = [x, 201, 202, 250][i]? := by
  unfold farL
  have : ([x, 201, 202, 250] ++ l.drop 4).length = n := by simp; omega
  rw [List.getElem?_append_right (by omega), this, Nat.add_sub_cancel_left]
theorem far_mid (hl : l.length = n) (h8 : 8 ≤ n) (hs : ∀ b ∈ l, b.toNat < 100) (i : Nat) (h4 : 4 ≤ i) (hi : i < n) : ((farL x l).getD i 0).toNat < 100 := by
  have h1 : ([x, 201, 202, 250] ++ l.drop 4).length = n := by simp; omega
  have : (farL x l)[i]? = l[i]? := by
    unfold farL
    rw [List.getElem?_append_left (by omega), List.getElem?_append_right (by simpa using h4), List.getElem?_drop]
    congr 1
    simp; omega
  rw [List.getD_eq_getElem?_getD, this, List.getElem?_eq_getElem (by omega)]
  exact hs _ (List.getElem_mem (by omega))
theorem far_last (hl : l.length = n) (h8 : 8 ≤ n) (hs : ∀ b ∈ l, b.toNat < 100) (h1 : 200 ≤ x.toNat) (h2 : x.toNat ≤ 204) : ∀ u, 1 ≤ u → u ≤ n → lastOf (farL x l) u x 201 202 = 1 := by
  have d0 : (farL x l).getD 0 0 = x := by rw [List.getD_eq_getElem?_getD, far_lo 0 (by omega)]; rfl
  have d1 : (farL x l).getD 1 0 = 201 := by rw [List.getD_eq_getElem?_getD, far_lo 1 (by omega)]; rfl
  have d2 : (farL x l).getD 2 0 = 202 := by rw [List.getD_eq_getElem?_getD, far_lo 2 (by omega)]; rfl
  have d3 : (farL x l).getD 3 0 = 250 := by rw [List.getD_eq_getElem?_getD, far_lo 3 (by omega)]; rfl
  intro u
  induction u with
  | zero => intro h; omega
  | succ u ih =>
    intro _ hu
    rw [lastOf]
    by_cases h0 : u = 0
    · subst h0
      rw [if_pos ⟨d0.symm, d1.symm, d2.symm⟩]
    · rw [if_neg, ih (by omega) (by omega)]
      rintro ⟨e0, e1, e2⟩
      by_cases h4 : 4 ≤ u
      · have := far_mid (x := x) hl h8 hs u h4 (by omega)
        rw [← e0] at this; omega
      · have : u = 1 ∨ u = 2 ∨ u = 3 := by omega
        rcases this with rfl | rfl | rfl
        · rw [d2] at e1; exact absurd e1 (by decide)
        · rw [d3] at e1; exact absurd e1 (by decide)
        · rw [d3] at e0; rw [e0] at h2; exact absurd h2 (by decide)
theorem far_same (hl : l.length = n) (h8 : 8 ≤ n) : sameN (farL x l) 0 n = 4 := by
  unfold sameN
  have L := far_lo (x := x) (l := l)
  have H := far_hi (x := x) hl h8
  rw [sameF_yes _ 257 0 n (L 0 (by omega)) (H 0), sameF_yes _ 256 1 (n + 1) (L 1 (by omega)) (H 1), sameF_yes _ 255 2 (n + 2) (L 2 (by omega)) (H 2), sameF_yes _ 254 3 (n + 3) (L 3 (by omega)) (H 3), sameF_end _ _ _ _ (by rw [farL_len hl h8]; omega)]
theorem far_find (hl : l.length = n) (h8 : 8 ≤ n) (hs : ∀ b ∈ l, b.toNat < 100) (h1 : 200 ≤ x.toNat) (h2 : x.toNat ≤ 204) :
    findT (farL x l) (n : Int) = if n ≤ 32768 then (0, 4, (n : Int)) else ((x.toNat : Int), 0, 0) := by
  have g0 : (farL x l).getD n 0 = x := by have := far_hi (x := x) hl h8 0; rw [Nat.add_zero] at this; rw [List.getD_eq_getElem?_getD, this]; rfl
  have g1 : (farL x l).getD (n + 1) 0 = 201 := by rw [List.getD_eq_getElem?_getD, far_hi hl h8 1]; rfl
  have g2 : (farL x l).getD (n + 2) 0 = 202 := by rw [List.getD_eq_getElem?_getD, far_hi hl h8 2]; rfl
  have hlong : longN (farL x l) n (n + 4) = if n ≤ 32768 then (4, n) else (0, 0) := by
    unfold longN
    rw [if_pos (by rw [farL_len hl h8]; omega), g0, g1, g2, far_last hl h8 hs h1 h2 n (by omega) (Nat.le_refl n), show n + 4 = (n + 3) + 1 from rfl, findGo, show (1 : Nat) - 1 = 0 from rfl, far_same hl h8]
    by_cases hn : n ≤ 32768
    · have : ∀ b, findGo (farL x l) n (n + 3) (prevV (farL x l) 0) b = b := fun b => by
        rw [show prevV (farL x l) 0 = 0 from rfl]
        cases h : n + 3 with
        | zero => rfl
        | succ t => rw [findGo, if_neg (by omega)]
      rw [this, if_pos (show 0 < 1 ∧ n + 1 ≤ 32768 + 1 by omega), if_pos (show 0 < 4 by decide), if_pos hn]
      rfl
    · rw [if_neg (show ¬ (0 < 1 ∧ n + 1 ≤ 32768 + 1) by omega), if_neg hn]
  unfold findT
  rw [if_neg (by rw [farL_len hl h8]; omega), Int.toNat_natCast, farL_len hl h8, g0, hlong]
  by_cases hn : n ≤ 32768
  · rw [if_pos hn, if_pos hn]; rfl
  · rw [if_neg hn, if_neg hn]; rfl
end
set_option maxRecDepth 100000 in
set_option maxHeartbeats 16000000 in
theorem goMatchFar (m x : Nat) (w : World) (hm : m < 256) (hx : x < 256) :
  Calls Try.prog 11 #[.int .u8 m, .int .u8 x] w fun e w' => e = .returned (.bool true) ∧ Below w.heap.size w w' := by
  go_enter Try.func11, Try.ntmps11
  go_wp2_with fail
  refine (fixed07_any w).mono ?_
  rintro e w0 ⟨rfl, hB0⟩
  obtain ⟨n, hnd⟩ : ∃ n : Nat, n = 32766 + m % 5 := ⟨_, rfl⟩
  have hn : 32766 ≤ n ∧ n ≤ 32770 := by omega
  have hNe : (32766 + (m : Int) % 5) = (n : Int) := by omega
  have hs0 := hB0.size
  have HN := Lib.hid (And.intro hnd hNe)
  clear hnd hNe
  go_wp2_with (at_make; refine wpList_mk (E := bE) slByte rfl rfl _ _ rfl n rfl rfl HN.out.2 HN.out.2 (0 : UInt8) rfl (by omega) (by unfold maxLen; omega) hs0 ?_; intro p1 w1 hown1 hg1)
  have hB1 := below_trans0 hB0 hs0 (below_of_grownBy hg1)
  have hz : ∀ b ∈ List.replicate n (0 : UInt8), b.toNat < 100 := fun b hb => by rw [(List.mem_replicate.1 hb).2]; decide
  clear hB0 hs0 hg1
  rw [HN.out.2]
  go_loopw [20] (fun xi wr => ∃ (k : Nat) (l : List UInt8), k ≤ n ∧ xi = .int .i64 k ∧ Own wr w.heap.size 5 bE p1 n n l ∧ (∀ b ∈ l, b.toNat < 100) ∧ Below w.heap.size w wr) (fun xi _ => n - (intOf xi).toNat)
  case atStart => exact ⟨0, _, by omega, rfl, hown1, hz, hB1⟩
  case round =>
    clear hown1 hB1 hz
    obtain ⟨k, l, hk, rfl, hown, hsm, hB⟩ := hrel
    by_cases hlt : k < n
    · obtain ⟨g, old, rfl, hgb, hglt, -, hxc, hf⟩ := hown.at (i := k) hlt
      have hy : (UInt8.ofNat (k % 7 + 10)).toNat = k % 7 + 10 := UInt8.toNat_ofNat_of_lt' (show k % 7 + 10 < 256 by omega)
      have hset := hown.set k hlt (UInt8.ofNat (k % 7 + 10))
      have hBset := hB.setCell (p := ⟨g, k, none⟩) hgb (bE (UInt8.ofNat (k % 7 + 10)))
      have hsm2 : ∀ b ∈ l.set k (UInt8.ofNat (k % 7 + 10)), b.toNat < 100 := fun b hb => by
        rcases List.mem_or_eq_of_mem_set hb with h | h
        · exact hsm b h
        · rw [h, hy]; omega
      have hbe : bE (UInt8.ofNat (k % 7 + 10)) = .int .u8 ((k : Int) % 7 + 10) := by unfold bE; rw [hy]; congr 1
      rw [hbe] at hset hBset
      have HS := Lib.hid (And.intro hset (And.intro hsm2 hBset))
      clear hset hBset hsm2 hown hsm hB hy hbe
      go_wp2
      go_roundw
      case rel => exact ⟨k + 1, _, by omega, by go_num, HS.out.1, HS.out.2.1, HS.out.2.2⟩
      case measure => simp [intOf]; omega
    · have hkn : k = n := by omega
      subst hkn
      obtain ⟨g, old, rfl, hgb, hglt, -, -, -⟩ := hown.at (i := 0) (by omega)
      obtain ⟨xb, hxb⟩ : ∃ u : UInt8, u.toNat = 200 + x % 5 := ⟨UInt8.ofNat (200 + x % 5), UInt8.toNat_ofNat_of_lt' (show 200 + x % 5 < 256 by omega)⟩
      have hxe : Value.int .u8 (200 + (x : Int) % 5) = bE xb := by unfold bE; rw [hxb]; congr 1
      have hw4 : Rd (wr.alloc (.cells #[.int .u8 (200 + (x : Int) % 5), .int .u8 201, .int .u8 202, .int .u8 250] 5)) bE (some ⟨wr.heap.size, 0, none⟩) [xb, 201, 202, 250] := rd_new _ _ _ _ _ (by rw [hxe]; rfl)
      have hown4 := hown.alloc (.cells #[.int .u8 (200 + (x : Int) % 5), .int .u8 201, .int .u8 202, .int .u8 250] 5)
      have hB4 := hB.alloc hB.size (.cells #[.int .u8 (200 + (x : Int) % 5), .int .u8 201, .int .u8 202, .int .u8 250] 5)
      have HL4 := Lib.hid hown.len
      have HW4 := Lib.hid hw4
      have HO4 := Lib.hid hown4
      have HB4 := Lib.hid hB4
      have HSM := Lib.hid hsm
      have HXB := Lib.hid hxb
      clear hown hB hw4 hown4 hB4 hsm hxb hxe
      obtain ⟨q, hq⟩ : ∃ q, q = wr.heap.size := ⟨_, rfl⟩
      have HGQ : Hid (g ≠ q ∧ w.heap.size ≤ g) := Lib.hid ⟨by omega, hgb⟩
      clear hgb
      have hsz4 : w.heap.size ≤ (wr.alloc (.cells #[.int .u8 (200 + (x : Int) % 5), .int .u8 201, .int .u8 202, .int .u8 250] 5)).heap.size := HB4.out.size
      have HS4 := Lib.hid hsz4
      clear hsz4 hglt
      go_wp2_with (first | (refine wpList_copyO (k := [xb, 201, 202, 250]) slByte rfl _ _ rfl rfl HO4.out rfl rfl (by omega) HW4.out (byteOne _) ?_; intro w5 hown5 hg5; have HO5 := Lib.hid hown5; have HG5 := Lib.hid hg5; clear hown5 hg5) | (at_builtin; refine wpList_cat (k := [xb, 201, 202, 250]) slByte rfl _ _ rfl rfl HO5.out rfl rfl (HW4.out.grown HG5.out (by intro b off h; simp only [Option.some.injEq, Addr.mk.injEq] at h; rw [← h.1, ← hq]; intro e; simp only [Option.some.injEq] at e; exact HGQ.out.1 e.symm)) (byteOne _) (by omega) (by unfold maxLen; omega) (Nat.le_trans HS4.out HG5.out.size) ?_; intro p6 c6 w6 hown6 hg6 hp6 hp7; have HO6 := Lib.hid hown6; have HG6 := Lib.hid hg6; clear hown6 hg6 hp6 hp7))
      rw [← hq] at HW4 ⊢
      have hne : ∀ b off, (some ⟨q, 0, none⟩ : Option Addr) = some ⟨b, off, none⟩ → some b ≠ some g := by
        intro b off h e
        simp only [Option.some.injEq, Addr.mk.injEq] at h e
        exact HGQ.out.1 (by rw [← e, ← h.1])
      have hw6 := (HW4.out.grown HG5.out hne).grown HG6.out (by intro b off h; simpa [Value.ownBlock] using hne b off h)
      have hB5 := HB4.out.grown HG5.out HS4.out (fun j hj => by simp only [Option.some.injEq] at hj; rw [← hj]; exact HGQ.out.2)
      have hB6 := hB5.grown HG6.out hB5.size (fun j hj => by simp [Value.ownBlock] at hj; rw [← hj]; exact HGQ.out.2)
      have HB6 := Lib.hid hB6
      have HW6 := Lib.hid hw6
      have hff := far_find (x := xb) HL4.out (by omega) HSM.out (by rw [HXB.out]; omega) (by rw [HXB.out]; omega)
      have hfl := farL_len (x := xb) HL4.out (by omega)
      have HCALL := Lib.hid (mFind_any p6 (k + 4) c6 (farL xb l) k w6 hfl (by omega) HO6.out.le_cap HO6.out.rd)
      clear hw6 hB5 hB6 hne hfl HO6 HG6 HO5 HG5 HW4 HO4 HB4 HS4 hq
      refine HCALL.out.mono ?_
      rw [hff]
      have HK := Lib.hid HN.out.1
      clear HCALL hff HN
      rintro e w7 ⟨rfl, hB7⟩
      have hB8 := HB6.out.trans (hB7.mono HB6.out.size)
      have hw7 := HW6.out.below hB7
      by_cases hle : k ≤ 32768
      · rw [if_pos hle]
        have hB9 := hB8.alloc hB8.size (.cells #[.int .u8 0, .int .i64 4, .int .i64 (k : Int)] TT)
        have HB9 := Lib.hid hB9
        have hkb := Blk.new w7 TT #[.int .u8 0, .int .i64 4, .int .i64 (k : Int)]
        have c0 := hkb.cell (i := 0) rfl
        have c1 := hkb.cell (i := 1) rfl
        have c2 := hkb.cell (i := 2) rfl
        clear hB7 hB8 hB9 hw7 HB6 HW6 hkb
        simp only [tokA]
        go_wp2
        go_ret
        exact ⟨rfl, HB9.out⟩
      · rw [if_neg hle]
        have hB9 := hB8.alloc hB8.size (.cells #[.int .u8 (xb.toNat : Int), .int .i64 0, .int .i64 0] TT)
        have HB9 := Lib.hid (show ∀ kd, Below w.heap.size w ((w7.alloc (.cells #[.int .u8 (xb.toNat : Int), .int .i64 0, .int .i64 0] TT)).drewN kd) from fun kd => hB9.trans ⟨rfl, rfl, rfl, Nat.le_refl _, fun _ _ => rfl⟩)
        have hkb := Blk.new w7 TT #[.int .u8 (xb.toNat : Int), .int .i64 0, .int .i64 0]
        have c0 := hkb.cell (i := 0) rfl
        have c1 := hkb.cell (i := 1) rfl
        obtain ⟨b, off, hab, -, hcw⟩ := (hw7.below (below_alloc w7 (.cells #[.int .u8 (xb.toNat : Int), .int .i64 0, .int .i64 0] TT))).at (k := 0) (by simp)
        simp only [Option.some.injEq, Addr.mk.injEq, and_true] at hab
        obtain ⟨rfl, rfl⟩ := hab
        replace hcw : (w7.alloc (.cells #[.int .u8 (xb.toNat : Int), .int .i64 0, .int .i64 0] TT)).cell? ⟨q, 0, none⟩ = some (.int .u8 (xb.toNat : Int)) := hcw
        have heq : ((xb.toNat : Int) == (xb.toNat : Int)) = true := by simp
        clear hB7 hB8 hB9 hw7 HB6 HW6 hkb
        simp only [tokA]
        go_wp2
        go_quiet (fail)
        go_wp2
        go_ret
        exact ⟨rfl, HB9.out _⟩
theorem walkMatchFar (m x : Int) (w : World) (hm : 0 ≤ m ∧ m < 256) (hx : 0 ≤ x ∧ x < 256) :
  Calls Try.prog 11 #[.int .u8 m, .int .u8 x] w fun e w' => e = .returned (.bool true) ∧ Below w.heap.size w w' := by
  obtain ⟨m', rfl⟩ := Int.eq_ofNat_of_zero_le hm.1
  obtain ⟨x', rfl⟩ := Int.eq_ofNat_of_zero_le hx.1
  exact goMatchFar m' x' w (by omega) (by omega)
end Go.Proofs.Ytnfdbljeinlblaa
