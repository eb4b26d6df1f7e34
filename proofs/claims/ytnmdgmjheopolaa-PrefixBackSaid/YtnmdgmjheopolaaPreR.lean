/- The walk of PrefixBack. -/
import Derived.Test.YtnmdgmjheopolaaPreQ
import Derived.Test.YtnmdgmjheopolaaBitCut
namespace Go.Proofs.Ytnmdgmjheopolaa
open Go.RowKit
set_option linter.unusedVariables false
set_option linter.unusedSimpArgs false

def pkB (l : List Int) (s : Int) : Bool := decide (0 ≤ s) && decide (s < (l.length : Int)) && decide (l.getD s.toNat 0 ≠ 0)
theorem pkB_iff (l : List Int) (s : Int) : pkB l s = true ↔ putOk l s := by
  unfold pkB putOk
  simp only [Bool.and_eq_true, decide_eq_true_eq, and_assoc]
def pkL (l ss : List Int) : List Int := ss.filter (pkB l)
def pwL (l ps : List Int) : List Bool := ps.flatMap fun s => wb (l.getD s.toNat 0).toNat (wv l s.toNat)
theorem pkL_yes {l ss : List Int} {i : Nat} (h : i < ss.length) (hp : putOk l ss[i]) : pkL l (ss.take (i + 1)) = pkL l (ss.take i) ++ [ss[i]] := by
  rw [List.take_succ_eq_append_getElem h]; unfold pkL; rw [List.filter_append, List.filter_cons_of_pos ((pkB_iff _ _).2 hp)]; rfl
theorem pkL_no {l ss : List Int} {i : Nat} (h : i < ss.length) (hp : ¬ putOk l ss[i]) : pkL l (ss.take (i + 1)) = pkL l (ss.take i) := by
  rw [List.take_succ_eq_append_getElem h]; unfold pkL; rw [List.filter_append, List.filter_cons_of_neg (fun e => hp ((pkB_iff _ _).1 e))]; simp
theorem pwL_snoc (l ps : List Int) (s : Int) : pwL l (ps ++ [s]) = pwL l ps ++ wb (l.getD s.toNat 0).toNat (wv l s.toNat) := by
  unfold pwL; rw [List.flatMap_append]; simp
theorem pkL_mem {l ss : List Int} {s : Int} (h : s ∈ pkL l ss) : putOk l s := (pkB_iff _ _).1 (List.mem_filter.1 h).2
theorem back_dec {l : List Int} (hk : kindS l ≠ 0) {ps : List Int} (hps : ∀ s ∈ ps, putOk l s) {i : Nat} (hi : i < ps.length) :
    ∃ n : Nat, getS l ((ofL (bytesL (pwL l ps))).drop (pwL l (ps.take i)).length) = (ps[i], 0, n) ∧ (pwL l (ps.take (i + 1))).length = (pwL l (ps.take i)).length + n := by
  obtain ⟨h0, h1, h2⟩ := hps ps[i] (List.getElem_mem hi)
  obtain ⟨s, hs⟩ := Int.eq_ofNat_of_zero_le h0
  have hsn : (ps[i]).toNat = s := by omega
  rw [hsn] at h2
  have hsl : s < l.length := by omega
  have hy := kindS_valid hk (l.getD s 0) (by rw [List.getD_eq_getElem?_getD, List.getElem?_eq_getElem hsl]; exact List.getElem_mem _)
  obtain ⟨n, hn⟩ := Int.eq_ofNat_of_zero_le hy.1
  have hsn2 : pwL l (ps.take (i + 1)) = pwL l (ps.take i) ++ wb n (wv l s) := by
    rw [List.take_succ_eq_append_getElem hi, pwL_snoc, hsn, hn, Int.toNat_natCast]
  have hall : pwL l ps = pwL l (ps.take i) ++ (wb n (wv l s) ++ pwL l (ps.drop (i + 1))) := by
    conv => lhs; rw [← List.take_append_drop (i + 1) ps]
    have : pwL l (ps.take (i + 1) ++ ps.drop (i + 1)) = pwL l (ps.take (i + 1)) ++ pwL l (ps.drop (i + 1)) := by unfold pwL; rw [List.flatMap_append]
    rw [this, hsn2, List.append_assoc]
  refine ⟨n, ?_, by rw [hsn2, List.length_append, wb_len]⟩
  have hcut : ((ofL (bytesL (pwL l ps))).drop (pwL l (ps.take i)).length).take n = wb n (wv l s) := by
    rw [ofL_cut _ _ _ (by rw [hall, List.length_append, List.length_append, wb_len]; omega), hall, List.drop_append_of_le_length (Nat.le_refl _), List.drop_length, List.nil_append, List.take_append_of_le_length (by rw [wb_len]; exact Nat.le_refl _), List.take_of_length_le (by rw [wb_len]; exact Nat.le_refl _)]
  rw [dec_word hk hsl hn (by omega) (by omega) hcut, hs]
/-- A code all of whose blocks are older than B. -/
structure CodeLt (B : Nat) (w : World) (g : Nat) (l : List Int) : Prop where
  ex : ∃ (a p q : Option Addr) (n c m d o : Nat), Arr w g 100 19 (codeF (.slice a n c) (.slice p n m) (.slice q o d) (cn l)) ∧ n ≤ 60000 ∧ o ≤ 900000 ∧ (∀ y ∈ l, 0 ≤ y ∧ y ≤ 15) ∧
    Own w 0 3 nE a n c l ∧ Own w 0 45 uE p n m (wsL l) ∧ Own w 0 3 oE q o d (ordL l 15) ∧ g < B ∧ (∀ z, a = some ⟨z, 0, none⟩ → z < B) ∧ (∀ z, p = some ⟨z, 0, none⟩ → z < B) ∧ (∀ z, q = some ⟨z, 0, none⟩ → z < B)
theorem own_lt {α : Type} {w : World} {B : Nat} {T : TypeId} {E : α → Value} {a : Option Addr} {n c : Nat} {l : List α} (h : Own w B T E a n c l) : ∀ z, a = some ⟨z, 0, none⟩ → z < w.heap.size := by
  intro z hz
  rcases h.blk with ⟨h1, _⟩ | ⟨z', h1, _, h2⟩
  · rw [h1] at hz; cases hz
  · rw [h1] at hz; simp only [Option.some.injEq, Addr.mk.injEq, and_true] at hz; omega
theorem CodeOk.lt {w : World} {g : Nat} {l : List Int} (h : CodeOk w g l) : CodeLt w.heap.size w g l := by
  obtain ⟨a, p, q, n, c, m, d, o, h1, h2, h3, h4, h5, h6, h7⟩ := h.ex
  exact ⟨a, p, q, n, c, m, d, o, h1, h2, h3, h4, h5, h6, h7, Blk.lt h1, own_lt h5, own_lt h6, own_lt h7⟩
section
variable {B : Nat} {w w' : World} {g : Nat} {l : List Int}
theorem CodeLt.ok (h : CodeLt B w g l) : CodeOk w g l := by
  obtain ⟨a, p, q, n, c, m, d, o, h1, h2, h3, h4, h5, h6, h7, _⟩ := h.ex
  exact ⟨a, p, q, n, c, m, d, o, h1, h2, h3, h4, h5, h6, h7⟩
theorem CodeLt.keep (h : CodeLt B w g l) (hk : BoolKeep w w') : CodeLt B w' g l := by
  obtain ⟨a, p, q, n, c, m, d, o, h1, h2, h3, h4, h5, h6, h7, h8⟩ := h.ex
  exact ⟨a, p, q, n, c, m, d, o, hk.blk h1 (by decide) (by decide), h2, h3, h4, own_boolKeep hk h5 (by decide) (by decide), own_boolKeep hk h6 (by decide) (by decide), own_boolKeep hk h7 (by decide) (by decide), h8⟩
theorem CodeLt.grown (h : CodeLt B w g l) {row : Option Nat} (hg : w.grownBy w' row) (hr : ∀ k, row = some k → B ≤ k) : CodeLt B w' g l := by
  obtain ⟨a, p, q, n, c, m, d, o, h1, h2, h3, h4, h5, h6, h7, h8, h9, h10, h11⟩ := h.ex
  exact ⟨a, p, q, n, c, m, d, o, h1.grown hg (fun e => by have := hr g e.symm; omega), h2, h3, h4, h5.grown hg (fun z hz e => by have := hr z e.symm; have := h9 z hz; omega), h6.grown hg (fun z hz e => by have := hr z e.symm; have := h10 z hz; omega), h7.grown hg (fun z hz e => by have := hr z e.symm; have := h11 z hz; omega), h8, h9, h10, h11⟩
end
theorem own_int_row {α : Type} {E : α → Value} {w : World} {B : Nat} {a : Option Addr} {n c : Nat} {l : List α} (ho : Own w B 3 E a n c l) : ∀ q, (Value.slice a n c).ownBlock = some q → ∃ cs fr, w.heap[q]? = some (.cells cs 3 fr) := by
  intro q e
  obtain ⟨⟨h1, h2⟩, h3⟩ := ho
  rcases h2 with ⟨h4, h5⟩ | ⟨g, cap, cur, hv, hge, hh, hrest⟩
  · rw [h4] at e; simp [Value.ownBlock] at e
  · rw [hv] at e; simp [Value.ownBlock] at e
    subst e
    exact ⟨_, _, hh⟩
theorem WOk.grownInt {w w' : World} {B g : Nat} {l : List UInt8} {held k : Nat} (h : WOk w B g l held k) {row : Option Nat} (hg : w.grownBy w' row) (hrow : ∀ q, row = some q → ∃ cs fr, w.heap[q]? = some (.cells cs 3 fr)) : WOk w' B g l held k := by
  obtain ⟨a, n, c, h1, h2, h3, h4⟩ := h.ex
  have hne : some g ≠ row := by
    intro e
    obtain ⟨cs, fr, hq⟩ := hrow g e.symm
    have := hq.symm.trans h1
    simp at this
  refine ⟨a, n, c, h1.grown hg hne, h2.grown hg (fun b hb e => ?_), h3, h4⟩
  obtain ⟨cs, fr, hq⟩ := hrow b e.symm
  obtain ⟨⟨g1, g2⟩, g3⟩ := h2
  rcases g2 with ⟨g4, g5⟩ | ⟨g', cap, cur, hv, hge, hh, hrest⟩
  · rw [hb] at g4; simp at g4
  · rw [hb] at hv; simp only [Value.slice.injEq, Option.some.injEq, Addr.mk.injEq] at hv
    obtain ⟨⟨rfl, _, _⟩, _, _⟩ := hv
    have := hq.symm.trans hh
    simp at this
/-- What lies there while signs are written. -/
structure WR (w0 : World) (B3 : Nat) (l : List Int) (gc gw : Nat) (p : Option Addr) (n : Nat) (q : Option Addr) (o d : Nat) (ps : List Int) (w : World) : Prop where
  code : CodeLt B3 w gc l
  wr : WBits w B3 gw (pwL l ps)
  ws : Own w 0 9 Value.string p n n ((rwsL l).map sB)
  wlt : ∀ z, p = some ⟨z, 0, none⟩ → z < B3
  row : Own w B3 3 nE q o d ps
  below : Below w0.heap.size w0 w
  le : w0.heap.size ≤ B3 ∧ B3 ≤ w.heap.size
section
variable {w0 w w' : World} {B3 : Nat} {l : List Int} {gc gw : Nat} {p : Option Addr} {n : Nat} {q q' : Option Addr} {o d o' d' : Nat} {ps ps' : List Int}
theorem WR.on (h : WR w0 B3 l gc gw p n q o d ps w) (hb : Below w.heap.size w w') : WR w0 B3 l gc gw p n q o d ps w' :=
  ⟨h.code.grown (grownBy_of_below none hb) (fun k hk => by cases hk), WBits.below h.wr hb, h.ws.below hb, h.wlt, h.row.below hb, h.below.trans (hb.mono h.below.size), h.le.1, Nat.le_trans h.le.2 hb.size⟩
theorem WR.put (h : WR w0 B3 l gc gw p n q o d ps w) (hw : WBits w' B3 gw (pwL l ps')) (hb : Below B3 w w') (hk : BoolKeep w w') : CodeLt B3 w' gc l ∧ WBits w' B3 gw (pwL l ps') ∧ Own w' 0 9 Value.string p n n ((rwsL l).map sB) ∧ Own w' B3 3 nE q o d ps ∧ Below w0.heap.size w0 w' ∧ B3 ≤ w'.heap.size :=
  ⟨h.code.keep hk, hw, own_boolKeep hk h.ws (by decide) (by decide), own_boolKeep hk h.row (by decide) (by decide), h.below.trans (hb.mono h.le.1), Nat.le_trans h.le.2 hb.size⟩
end
set_option maxRecDepth 100000 in
set_option maxHeartbeats 8000000 in
theorem walkPrefixBack (a : Option Addr) (n c : Nat) (l : List Int) (b : Option Addr) (m d : Nat) (ss : List Int) (w : World) (hl : l.length = n) (hn : n ≤ maxLen) (hr : Rd w nE a l) (hx : ∀ x ∈ l, -9223372036854775808 ≤ x ∧ x ≤ 9223372036854775807) (hL : ss.length = m) (hm : m ≤ maxLen) (hR : Rd w nE b ss) (hy : ∀ x ∈ ss, -9223372036854775808 ≤ x ∧ x ≤ 9223372036854775807) :
  Calls Try.prog 6 #[.slice a n c, .slice b m d] w fun e w' => e = .returned (.bool true) ∧ Below w.heap.size w w' := by
  have HR := Lib.hid (And.intro hl hr)
  have HRB := Lib.hid (And.intro hL (And.intro hR hy))
  unfold maxLen at hn hm
  clear hl hr hx hL hR hy
  go_enter Try.func6, Try.ntmps6
  go_wp2_with fail
  refine (fixed05_any w).mono ?_
  rintro e w1 ⟨rfl, hb1⟩
  have HB := Lib.hid hb1
  clear hb1
  by_cases h40 : n ≤ 100
  case neg =>
    have g : (100 : Int) < (n : Int) := by omega
    go_wp2
    go_ret
    exact ⟨rfl, HB.out⟩
  have g : ¬ (100 : Int) < (n : Int) := by omega
  by_cases h41 : m ≤ 100
  case neg =>
    have g' : (100 : Int) < (m : Int) := by omega
    go_wp2
    go_ret
    exact ⟨rfl, HB.out⟩
  have g' : ¬ (100 : Int) < (m : Int) := by omega
  go_wp2_with fail
  refine (rwords_any a n c l w1 HR.out.1 (by omega) (HR.out.2.below HB.out)).mono ?_
  rintro e w2 ⟨hb2, h2⟩
  have HB2 := Lib.hid (HB.out.trans (hb2.mono HB.out.size))
  clear hb2
  rcases h2 with ⟨hk, rfl⟩ | ⟨hk, p, rfl, ho2⟩
  · have HK := Lib.hid hk
    clear hk
    go_wp2_with fail
    refine (new_any a n c l w2 HR.out.1 (by omega) (HR.out.2.below HB2.out)).mono ?_
    rintro e w3 ⟨hb3, h3⟩
    rcases h3 with ⟨-, rfl⟩ | ⟨h3, _⟩
    case inr => exact absurd HK.out h3
    have HB3 := Lib.hid (HB2.out.trans (hb3.mono HB2.out.size))
    clear hb3
    go_wp2
    go_ret
    exact ⟨rfl, HB3.out⟩
  · have HK := Lib.hid hk
    have HO2 := Lib.hid (ho2.mono (b' := 0) (Nat.zero_le _))
    clear hk ho2
    go_wp2_with fail
    refine (new_any a n c l w2 HR.out.1 (by omega) (HR.out.2.below HB2.out)).mono ?_
    rintro e w3 ⟨hb3, h3⟩
    rcases h3 with ⟨h3, _⟩ | ⟨-, gc, -, rfl, hcode⟩
    · exact absurd h3 HK.out
    have HB3 := Lib.hid (HB2.out.trans (hb3.mono HB2.out.size))
    have HO3 := Lib.hid (And.intro (HO2.out.below hb3) hcode.lt)
    clear hb3 hcode HO2
    go_wp2_with fail
    refine (wNew_any w3).mono ?_
    rintro e w4 ⟨gw, rfl, hw4, hb4⟩
    have HWR : Hid (WR w w3.heap.size l gc gw p n none 0 0 [] w4) := Lib.hid
      ⟨HO3.out.2.grown (grownBy_of_below none hb4) (fun k hk => by cases hk), hw4, HO3.out.1.below hb4, own_lt HO3.out.1, Own.nil, HB3.out.trans (hb4.mono HB3.out.size), HB3.out.size, hb4.size⟩
    obtain ⟨B3, hB3⟩ : ∃ B3, B3 = w3.heap.size := ⟨_, rfl⟩
    rw [← hB3] at HWR
    clear hw4 hb4 HO3 HB3 HB2 HB hB3
    go_wp2
    go_loopw [10, 11, 47] (fun x10 x11 x47 wr => ∃ (i : Nat) (q : Option Addr) (o e bits : Nat), i ≤ m ∧ x10 = .slice q o e ∧ x11 = .int .i64 (bits : Int) ∧ x47 = .int .i64 i ∧ Hid (bits = (pwL l (pkL l (ss.take i))).length ∧ bits ≤ 15 * i ∧ o ≤ i) ∧ WR w B3 l gc gw p n q o e (pkL l (ss.take i)) wr) (fun _ _ x47 _ => m - (intOf x47).toNat)
    case atStart => exact ⟨0, none, 0, 0, 0, Nat.zero_le _, rfl, rfl, rfl, Lib.hid ⟨rfl, Nat.le_refl _, Nat.le_refl _⟩, HWR.out⟩
    case round =>
      clear HWR
      obtain ⟨i, q, o, e, bits, hi, rfl, rfl, rfl, hst, hW⟩ := hrel
      by_cases him : i < m
      · have hil : i < ss.length := by rw [HRB.out.1]; exact him
        obtain ⟨b1, o1, rfl, -, hc⟩ := (HRB.out.2.1.below hW.below).at hil
        replace hc : wr.cell? ⟨b1, o1 + i, none⟩ = some (.int .i64 ss[i]) := hc
        have hsr := HRB.out.2.2 ss[i] (List.getElem_mem hil)
        have HYES := Lib.hid (fun h => pkL_yes (l := l) hil h)
        have HNO := Lib.hid (fun h => pkL_no (l := l) hil h)
        have HW := Lib.hid hW
        have hlen : (pwL l (pkL l (ss.take i))).length ≤ 1000000 := by rw [← hst.out.1]; have := hst.out.2.1; omega
        clear hW
        generalize ss[i] = s at *
        go_wp2_with fail
        refine (cPut_any gc l B3 gw (pwL l (pkL l (ss.take i))) s wr HW.out.code.ok HW.out.wr HW.out.le.2 hlen hsr).mono ?_
        rintro e5 w5 ⟨rfl, hw5, hb5, hk5⟩
        clear hc hlen
        by_cases hp : putOk l s
        · have hE : putEr l s = 0 := if_pos hp
          have hPB : putBits l s (pwL l (pkL l (ss.take i))) = pwL l (pkL l (ss.take (i + 1))) := by
            rw [HYES.out hp, pwL_snoc]; exact if_pos hp
          rw [hE]
          rw [hPB] at hw5
          obtain ⟨h51, h52, h53, h54, h55, h56⟩ := HW.out.put hw5 hb5 hk5
          have HWL := Lib.hid HW.out.wlt
          have HLE := Lib.hid HW.out.le.1
          have HW5 := Lib.hid (And.intro h51 (And.intro h52 (And.intro h53 (And.intro h54 (And.intro h55 h56)))))
          have HYE := Lib.hid (HYES.out hp)
          obtain ⟨p0, p1, p2⟩ := hp
          obtain ⟨k, rfl⟩ := Int.eq_ofNat_of_zero_le p0
          rw [Int.toNat_natCast] at p2
          have hkl : k < l.length := by omega
          have hkn : (k : Int) < (n : Int) := by rw [← HR.out.1]; exact p1
          have hgk : l.getD k 0 = l[k] := by rw [List.getD_eq_getElem?_getD, List.getElem?_eq_getElem hkl]; rfl
          obtain ⟨b2, o2, rfl, -, hc2⟩ := (HR.out.2.below h55).at hkl
          replace hc2 : w5.cell? ⟨b2, o2 + k, none⟩ = some (.int .i64 l[k]) := hc2
          have gz : (l[k] == 0) = false := by rw [← hgk]; simpa using p2
          have hrl : k < ((rwsL l).map sB).length := by rw [List.length_map, rwsL_length]; exact hkl
          obtain ⟨b3, o3, hp3, hc3⟩ := own_row h53 hrl
          have hc3 := hc3 k hrl
          have e3 : ((rwsL l).map sB)[k] = sB (rwv l k) := by simp [rwsL]
          rw [e3] at hc3
          subst hp3
          have hsz : (sB (rwv l k)).size = (l.getD k 0).toNat := by rw [sB_size, rwv_len]
          have hly := kindS_valid HK.out l[k] (List.getElem_mem hkl)
          have HBT : Hid (bits + (l.getD k 0).toNat = (pwL l (pkL l (ss.take (i + 1)))).length) := Lib.hid (by
            rw [HYE.out, pwL_snoc, List.length_append, wb_len, Int.toNat_natCast, ← hst.out.1])
          rw [hgk] at hsz HBT
          obtain ⟨t, ht⟩ := Int.eq_ofNat_of_zero_le hly.1
          rw [ht, Int.toNat_natCast] at hsz HBT
          rw [ht] at hc2 gz
          have ht15 : t ≤ 15 := by omega
          have hbs := hst.out.2
          generalize sB (rwv l k) = sv at *
          replace hc3 : w5.cell? ⟨b3, o3 + k, none⟩ = some (.string sv) := hc3
          have hbase5 := HW5.out.2.2.2.2.2
          have hlt3 : Hid (b3 < B3) := Lib.hid (by
            rcases HW5.out.2.2.1.blk with ⟨h, _⟩ | ⟨z, h, _, _⟩
            · cases h
            · simp only [Option.some.injEq, Addr.mk.injEq, and_true] at h
              have := HWL.out z (by rw [h.1, h.2])
              omega)
          have HGE : Hid (∀ k, (Value.slice q o e).ownBlock = some k → B3 ≤ k) := Lib.hid (fun k hk => (HW5.out.2.2.2.1.1.lt k hk).1)
          have HC3 := Lib.hid hc3
          have hcell : Hid ((w5.alloc (.cells #[.int .i64 (k : Int)] 3)).cell? ⟨w5.heap.size, 0, none⟩ = some (nE (k : Int))) := Lib.hid (cell_push rfl w5 _)
          clear hw5 hb5 hk5 h51 h52 h53 h54 h55 h56 HW hE hPB hgk p0 p1 p2 HYES HNO hly ht hsr e3
          go_wp2_with (at_builtin; refine wpList_push (w0 := w5) slIntE rfl _ _ rfl rfl rfl HW5.out.2.2.2.1 (k : Int) _ rfl hcell.out rfl (by omega) (by unfold maxLen; omega) hbase5 ?_; intro q6 d6 w6 hown6 hg6; have hc6 := hg6.cell HC3.out (fun e => by have := HGE.out b3 e.symm; have := hlt3.out; omega); have HW6 := Lib.hid (And.intro hown6 hg6); clear hown6 hg6)
          have HWR6 : Hid (WR w B3 l gc gw (some ⟨b3, o3, none⟩) n q6 (o + 1) d6 (pkL l (ss.take (i + 1))) w6) := Lib.hid (by
            have hg6 := HW6.out.2
            refine ⟨HW5.out.1.grown hg6 HGE.out, WOk.grownInt HW5.out.2.1 hg6 (own_int_row HW5.out.2.2.2.1), HW5.out.2.2.1.grown hg6 (fun z hz e => by have := HGE.out z e.symm; have := HWL.out z hz; omega), HWL.out, ?_, HW5.out.2.2.2.2.1.grown hg6 (Nat.le_trans HLE.out hbase5) (fun k hk => Nat.le_trans HLE.out (HGE.out k hk)), HLE.out, Nat.le_trans hbase5 hg6.size⟩
            rw [HYE.out]; exact HW6.out.1)
          clear HW5 HW6 HC3 HGE
          have hlen6 : (pwL l (pkL l (ss.take (i + 1)))).length ≤ 1000000 := by rw [← HBT.out]; omega
          refine (wLen_any B3 gw (pwL l (pkL l (ss.take (i + 1)))) w6 HWR6.out.wr hlen6).mono ?_
          rintro e7 w7 ⟨rfl, kd, rfl⟩
          rw [← HBT.out]
          have HWR7 := Lib.hid (HWR6.out.on (below_drewN w6 _ kd))
          have hneq : ((bits : Int) + (t : Int) != ((bits + t : Nat) : Int)) = false := by simp
          have hcast : ((bits + t : Nat) : Int) = (bits : Int) + (t : Int) := by omega
          rw [hcast]
          clear HWR6 hlen6 hneq hcast
          go_wp2
          go_roundw
          case rel => exact ⟨i + 1, q6, o + 1, d6, bits + t, by omega, rfl, by congr 1, by go_num, Lib.hid ⟨HBT.out, by omega, by omega⟩, HWR7.out⟩
          case measure => simp [intOf] <;> omega
        · have hE : putEr l s = 5 := if_neg hp
          have hPB : putBits l s (pwL l (pkL l (ss.take i))) = pwL l (pkL l (ss.take (i + 1))) := by
            rw [HNO.out hp]; exact if_neg hp
          rw [hE]
          rw [hPB] at hw5
          obtain ⟨h51, h52, h53, h54, h55, h56⟩ := HW.out.put hw5 hb5 hk5
          have HEQ := Lib.hid (HNO.out hp)
          have HWR6 : Hid (WR w B3 l gc gw p n q o e (pkL l (ss.take (i + 1))) w5) := Lib.hid ⟨h51, h52, h53, HW.out.wlt, by rw [HEQ.out]; exact h54, h55, HW.out.le.1, h56⟩
          have HS2 : Hid (bits = (pwL l (pkL l (ss.take (i + 1)))).length ∧ bits ≤ 15 * (i + 1) ∧ o ≤ i + 1) := Lib.hid ⟨by rw [HEQ.out]; exact hst.out.1, by have := hst.out.2.1; omega, by have := hst.out.2.2; omega⟩
          by_cases p0 : s < 0
          · clear hw5 hb5 hk5 h51 h52 h53 h54 h55 h56 HW hE hPB hp HYES HNO
            go_wp2
            go_roundw
            case rel => exact ⟨i + 1, q, o, e, bits, by omega, rfl, rfl, by go_num, HS2, HWR6.out⟩
            case measure => simp [intOf] <;> omega
          · obtain ⟨k, rfl⟩ := Int.eq_ofNat_of_zero_le (show 0 ≤ s by omega)
            by_cases hkn : (k : Int) < (n : Int)
            · have hkl : k < l.length := by rw [HR.out.1]; omega
              have hgk : l.getD k 0 = l[k] := by rw [List.getD_eq_getElem?_getD, List.getElem?_eq_getElem hkl]; rfl
              have hz : l[k] = 0 := by
                refine Classical.byContradiction fun hne => hp ⟨by omega, by omega, ?_⟩
                rw [Int.toNat_natCast, hgk]; exact hne
              obtain ⟨b2, o2, rfl, -, hc2⟩ := (HR.out.2.below h55).at hkl
              replace hc2 : w5.cell? ⟨b2, o2 + k, none⟩ = some (.int .i64 l[k]) := hc2
              rw [hz] at hc2
              clear hw5 hb5 hk5 h51 h52 h53 h54 h55 h56 HW hE hPB hp HYES HNO hz hgk
              go_wp2
              go_roundw
              case rel => exact ⟨i + 1, q, o, e, bits, by omega, rfl, rfl, by go_num, HS2, HWR6.out⟩
              case measure => simp [intOf] <;> omega
            · clear hw5 hb5 hk5 h51 h52 h53 h54 h55 h56 HW hE hPB hp HYES HNO
              go_wp2
              go_roundw
              case rel => exact ⟨i + 1, q, o, e, bits, by omega, rfl, rfl, by go_num, HS2, HWR6.out⟩
              case measure => simp [intOf] <;> omega
      · have him' : i = m := by omega
        have htk : ss.take i = ss := List.take_of_length_le (by rw [HRB.out.1]; omega)
        rw [htk] at hW hst
        subst him'
        obtain ⟨ps, hps⟩ : ∃ ps, ps = pkL l ss := ⟨_, rfl⟩
        have HPS : Hid (∀ s ∈ ps, putOk l s) := Lib.hid (fun s hs => pkL_mem (ss := ss) (by rw [← hps]; exact hs))
        rw [← hps] at hW hst
        have HW := Lib.hid hW
        have hlen : (pwL l ps).length ≤ 1500 := by rw [← hst.out.1]; have := hst.out.2.1; omega
        have HLE := Lib.hid hlen
        have hob : o ≤ 100 := by have := hst.out.2.2; omega
        clear hW hst htk hps hlen
        go_wp2_with fail
        refine (wBytes_any B3 gw (pwL l ps) wr HW.out.wr (by have := HLE.out; omega)).mono ?_
        rintro e5 w5 ⟨a5, n5, c5, rfl, hown5, hb5⟩
        have HW5 := Lib.hid (HW.out.on hb5)
        have HO5 := Lib.hid (And.intro hown5.len hown5.rd)
        have hn5 : n5 ≤ 1000000 := by have := hown5.len; rw [bytesL_length] at this; have := HLE.out; omega
        clear hown5 hb5 HW
        go_wp2_with fail
        refine (rdNew_any a5 n5 c5 (bytesL (pwL l ps)) w5 HO5.out.1 hn5 HO5.out.2).mono ?_
        rintro e6 w6 ⟨gr, rfl, hgr, hrd6, hb6⟩
        have HW6 := Lib.hid (HW5.out.on hb6)
        have HS6 : Hid (CodeOk w6 gc l ∧ Own w6 0 3 nE q o e ps ∧ Below w.heap.size w w6 ∧ RdOk w6 gr (bytesL (pwL l ps)) (pwL l (ps.take 0)).length ∧ w.heap.size ≤ gr) := Lib.hid ⟨HW6.out.code.ok, HW6.out.row.mono (Nat.zero_le _), HW6.out.below, hrd6, Nat.le_trans HW5.out.below.size hgr⟩
        have HOL : Hid (ps.length = o) := Lib.hid HW6.out.row.len
        clear hgr hrd6 hb6 HW5 HO5 HW6 hn5
        go_wp2
        go_loopw [97] (fun x97 wr => ∃ j : Nat, j ≤ o ∧ x97 = .int .i64 j ∧ CodeOk wr gc l ∧ Own wr 0 3 nE q o e ps ∧ Below w.heap.size w wr ∧ RdOk wr gr (bytesL (pwL l ps)) (pwL l (ps.take j)).length ∧ w.heap.size ≤ gr) (fun x97 _ => o - (intOf x97).toNat)
        case atStart => exact ⟨0, Nat.zero_le _, rfl, HS6.out⟩
        case round =>
          clear HS6
          obtain ⟨j, hj, rfl, hcode, hown, hB, hrd, hgr⟩ := hrel
          by_cases hjo : j < o
          · have hjl : j < ps.length := by rw [HOL.out]; exact hjo
            obtain ⟨b7, o7, rfl, -, hc7⟩ := hown.rd.at hjl
            replace hc7 : wr.cell? ⟨b7, o7 + j, none⟩ = some (.int .i64 ps[j]) := hc7
            obtain ⟨nb, hdec, hnext⟩ := back_dec HK.out HPS.out hjl
            have HD := Lib.hid (And.intro hdec hnext)
            have HC := Lib.hid (And.intro hcode (And.intro hown (And.intro hB (And.intro hrd hgr))))
            clear hdec hnext hcode hown hB hrd hgr
            generalize ps[j] = s at *
            go_wp2_with fail
            refine (cGet_any gc gr l (bytesL (pwL l ps)) (pwL l (ps.take j)).length wr HC.out.1 HC.out.2.2.2.1).mono ?_
            rintro e8 w8 ⟨hret, hrd8, hc8, hg8⟩
            rw [HD.out.1] at hret hrd8
            subst hret
            obtain ⟨a1, n1, c1, hb1, -⟩ := HC.out.2.2.2.1.ex
            have HF : Hid (CodeOk w8 gc l ∧ Own w8 0 3 nE (some ⟨b7, o7, none⟩) o e ps ∧ Below w.heap.size w w8 ∧ RdOk w8 gr (bytesL (pwL l ps)) (pwL l (ps.take (j + 1))).length ∧ w.heap.size ≤ gr) := Lib.hid
              ⟨hc8, own_byType HC.out.2.1 hb1 (by decide) hg8, HC.out.2.2.1.grown hg8 HC.out.2.2.1.size (fun k hk => by simp only [Option.some.injEq] at hk; have := HC.out.2.2.2.2; omega), by rw [HD.out.2]; exact hrd8, HC.out.2.2.2.2⟩
            clear hrd8 hc8 hg8 hb1 HC HD hc7
            have hss : (s != s) = false := by simp
            go_wp2
            go_roundw
            case rel => exact ⟨j + 1, by omega, by go_num, HF.out⟩
            case measure => simp [intOf] <;> omega
          · have hjo' : j = o := by omega
            subst hjo'
            have HF := Lib.hid hB
            clear hB hcode hown hrd hgr
            go_wp2
            go_ret
            exact ⟨rfl, HF.out⟩
end Go.Proofs.Ytnmdgmjheopolaa
