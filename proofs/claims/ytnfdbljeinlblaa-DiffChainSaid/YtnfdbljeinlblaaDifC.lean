/- diff.Of. -/
import Derived.Test.YtnfdbljeinlblaaDifB
import Derived.Test.YtnfdbljeinlblaaRowP
namespace Go.Proofs.Ytnfdbljeinlblaa
open Go.RowKit
set_option linter.unusedVariables false
set_option linter.unusedSimpArgs false

abbrev ET : TypeId := 79
abbrev CT : TypeId := 81
theorem slChg : SlT Try.prog 28 CT (.agg #[.string ⟨#[]⟩, .int .u16 0, .int .u16 0, .int .i64 0, .slice none 0 0]) 5 56 := ⟨Try.underlying28, by kernel_rfl, rfl⟩
theorem slEnt : SlT Try.prog 22 ET (.agg #[.string ⟨#[]⟩, .int .u16 0, .int .u16 0, .slice none 0 0]) 4 48 := ⟨Try.underlying22, by kernel_rfl, rfl⟩
structure Chg where
  na : ByteArray
  da : Int
  cl : Int
  fr : Int
  p : Option Addr
  k : Nat
  c : Nat
  dt : List UInt8
def chL (q : Chg) : List Value := [.string q.na, .int .u16 q.da, .int .u16 q.cl, .int .i64 q.fr, .slice q.p q.k q.c]
def chK (q : Chg) : ByteArray × Int × Int × Int × List UInt8 := (q.na, q.da, q.cl, q.fr, q.dt)
def ofE (es : List Ent) (x : Ent) : ByteArray × Int × Int × Int × List UInt8 :=
  match idxF es 0 (strOf x.dt) x.na true with
  | some j => (x.na, x.da, x.cl, (j : Int), [])
  | none => match idxF es 0 (strOf x.dt) ⟨#[]⟩ false with
    | some j => (x.na, x.da, x.cl, (j : Int), [])
    | none => (x.na, x.da, x.cl, -1, x.dt)
def RdC (w : World) (a : Option Addr) (n : Nat) (cs : List Chg) : Prop :=
  cs.length = n ∧ RdN w a n 5 (fun i j => ((cs.map chL).getD i []).getD j undef) ∧ ∀ q ∈ cs, q.dt.length = q.k ∧ Rd w bE q.p q.dt
def OwnC (w : World) (base : Nat) (a : Option Addr) (n c : Nat) (cs : List Chg) : Prop :=
  OwnR w base CT 5 a n c (cs.map chL) ∧ ∀ q ∈ cs, Own w 0 5 bE q.p q.k q.c q.dt
theorem OwnC.below {w w' : World} {base : Nat} {a : Option Addr} {n c : Nat} {cs : List Chg} (h : OwnC w base a n c cs) (hb : Below w.heap.size w w') : OwnC w' base a n c cs := ⟨h.1.below hb, fun q hq => (h.2 q hq).below hb⟩
theorem OwnC.rd {w : World} {base : Nat} {a : Option Addr} {n c : Nat} {cs : List Chg} (h : OwnC w base a n c cs) : RdC w a n cs := ⟨by simpa using h.1.2.1, h.1.rd, fun q hq => ⟨(h.2 q hq).len, (h.2 q hq).rd⟩⟩
theorem tne : CT ≠ 5 := by decide
theorem OwnC.setB {w : World} {base B j : Nat} {v : Value} {a : Option Addr} {n c : Nat} {cs : List Chg} {xs : Array Value} (h : OwnC w base a n c cs) (hB : Blk w B CT xs) (hne : ∀ k, (Value.slice a n c).ownBlock = some k → k ≠ B) : OwnC (w.setCell ⟨B, j, none⟩ v) base a n c cs :=
  ⟨h.1.grown (grownBy_setCell w ⟨B, j, none⟩ v) (fun k hk e => hne k hk (by simpa using e)), fun q hq => (h.2 q hq).byType hB tne (grownBy_setCell w ⟨B, j, none⟩ v)⟩
theorem OwnC.snoc {w w' : World} {base : Nat} {a a' : Option Addr} {n c c' : Nat} {cs : List Chg} {q : Chg} (h : OwnC w base a n c cs) (hn : OwnR w' base CT 5 a' (n + 1) c' (cs.map chL ++ [chL q])) (hg : w.grownBy w' (Value.slice a n c).ownBlock) (hq : Own w 0 5 bE q.p q.k q.c q.dt) : OwnC w' base a' (n + 1) c' (cs ++ [q]) := by
  refine ⟨by simpa using hn, fun x hx => ?_⟩
  rcases List.mem_append.1 hx with hx | hx
  · exact h.1.own_kept (h.2 x hx) tne hg
  · rw [List.mem_singleton.1 hx]; exact h.1.own_kept hq tne hg
set_option maxRecDepth 100000 in
set_option maxHeartbeats 16000000 in
theorem of_any (a : Option Addr) (n c : Nat) (es : List Ent) (b : Option Addr) (m d : Nat) (bs : List Ent) (w : World) (hn : n ≤ 1000000) (hm : m ≤ 1000000) (hp : RdE w a n es) (hs : SmallE es) (hq : RdE w b m bs) (ht : SmallE bs) :
  Calls Try.prog 18 #[.slice a n c, .slice b m d] w fun e w' => ∃ p k cs, e = .returned (.slice p m k) ∧ RdC w' p m cs ∧ cs.map chK = bs.map (ofE es) ∧ Below w.heap.size w w' := by
  have HQ := Lib.hid hq
  have HT := Lib.hid ht
  have HL := Lib.hid hq.1
  clear hq ht
  go_enter Try.func18, Try.ntmps18
  go_wp2_with fail
  refine (index_any a n c es w hn hp hs).mono ?_
  rintro e w1 ⟨g, rfl, hgw, ⟨cnt, hM⟩, hB1⟩
  have HM := Lib.hid hM
  have HB1 := Lib.hid hB1
  have HQ1 := Lib.hid (HQ.out.below hB1)
  clear hp hs hM hB1 HQ hgw
  go_wp2
  go_loopw [6, 16] (fun x6 x16 wr => ∃ (i k : Nat) (p : Option Addr) (cs : List Chg), i ≤ m ∧ x6 = .slice p i k ∧ x16 = .int .i64 i ∧ OwnC wr w1.heap.size p i k cs ∧ cs.map chK = (bs.take i).map (ofE es) ∧ Below w1.heap.size w1 wr) (fun _ x16 _ => m - (intOf x16).toNat)
  case atStart => exact ⟨0, 0, none, [], by omega, rfl, rfl, ⟨OwnR.nil, fun q hq => by cases hq⟩, rfl, Below.refl _ _⟩
  case round =>
    obtain ⟨i, k, p, cs, hi, rfl, rfl, hown, hmap, hB⟩ := hrel
    by_cases him : i < m
    · have hil : i < bs.length := by rw [HL.out]; exact him
      obtain ⟨b', off, p', k', c', rfl, c0, c1, c2, c3, hk, hrd⟩ := (HQ1.out.below hB).at hil
      have hse := HT.out bs[i] (List.getElem_mem hil)
      have hmap2 : ∀ q : Chg, chK q = ofE es bs[i] → (cs ++ [q]).map chK = (bs.take (i + 1)).map (ofE es) := fun q hq => by
        rw [List.take_succ_eq_append_getElem hil, List.map_append, List.map_append, hmap, List.map_singleton, List.map_singleton, hq]
      have HMAP := Lib.hid hmap2
      have HOW := Lib.hid hown
      have HB := Lib.hid hB
      have HRD := Lib.hid hrd
      clear hmap hmap2 hown hB hrd
      have hia : i ≤ 1000000 := by omega
      generalize bs[i] = x at c0 c1 c2 c3 hk HRD hse HMAP
      go_wp2
      generalize hwA : wr.alloc (.cells #[.string x.na, .int .u16 x.da, .int .u16 x.cl, .slice p' k' c'] ET) = wA
      have hBA : Below wr.heap.size wr wA := by rw [← hwA]; exact below_alloc _ _
      have hkA : Blk wA wr.heap.size ET #[.string x.na, .int .u16 x.da, .int .u16 x.cl, .slice p' k' c'] := by rw [← hwA]; exact Blk.new _ _ _
      have hsA : wA.heap.size = wr.heap.size + 1 := by rw [← hwA]; simp
      generalize hwB : wA.alloc (.cells #[.string x.na, .int .u16 x.da, .int .u16 x.cl, .int .i64 (-1), .slice none 0 0] CT) = wB
      have hBB : Below wA.heap.size wA wB := by rw [← hwB]; exact below_alloc _ _
      have HKA := Lib.hid (hkA.below hBB)
      have HKB : Hid (Blk wB (wr.heap.size + 1) CT #[.string x.na, .int .u16 x.da, .int .u16 x.cl, .int .i64 (-1), .slice none 0 0]) := Lib.hid (by rw [← hwB, ← hsA]; exact Blk.new _ _ _)
      obtain ⟨A, hA⟩ : ∃ A, A = wr.heap.size := ⟨_, rfl⟩
      have HNE : Hid (∀ k1, (Value.slice p i k).ownBlock = some k1 → k1 ≠ wr.heap.size + 1) := Lib.hid (fun k1 hk => Nat.ne_of_lt (Nat.lt_succ_of_lt (HOW.out.1.row k1 hk).2.1))
      have hBw : Below wr.heap.size wr wB := hBA.trans (hBB.mono (by omega))
      have HW := Lib.hid (And.intro (HOW.out.below hBw) (And.intro (HRD.out.below hBw) (HB.out.trans (hBw.mono HB.out.size))))
      have hcv := conv_str (P := Try.prog) Try.underlying32 Try.underlying5 Try.underlying9 c' hk HW.out.2.1
      have hl1 := (HM.out.below HW.out.2.2).look (strOf x.dt) x.na true (by rw [strOf_size]; unfold maxLen; omega) (by unfold maxLen; omega)
      have hl2 := (HM.out.below HW.out.2.2).look (strOf x.dt) ⟨#[]⟩ false (by rw [strOf_size]; unfold maxLen; omega) (by unfold maxLen; decide)
      unfold kD at hl1 hl2
      have HB1w := Lib.hid (HB.out.trans (hBw.mono HB.out.size))
      have HBg : Hid (w1.heap.size ≤ wr.heap.size + 1) := Lib.hid (by have := HB.out.size; omega)
      have HWS : Hid (w1.heap.size ≤ wB.heap.size) := Lib.hid (HB.out.trans (hBw.mono HB.out.size)).size
      obtain ⟨B, hBd⟩ : ∃ B, B = wr.heap.size + 1 := ⟨_, rfl⟩
      rw [← hBd] at HKB HNE HBg
      rw [← hA] at HKA
      rw [← hBd, ← hA]
      have HKL := Lib.hid hk
      clear hwA hwB hBA hkA hsA hBB hA hBd hBw hk HRD HB HOW c0 c1 c2 c3
      rw [hcv]
      show Oper.upon _ _ _ _ _ (Result.ok (Next.value (Value.string (strOf x.dt))) wB)
      have ka0 := HKA.out.cell (i := 0) rfl
      have ka3 := HKA.out.cell (i := 3) rfl
      have kb0 := HKB.out.cell (i := 0) rfl
      have kb1 := HKB.out.cell (i := 1) rfl
      have kb2 := HKB.out.cell (i := 2) rfl
      have kb3 := HKB.out.cell (i := 3) rfl
      have kb4 := HKB.out.cell (i := 4) rfl
      have hof : ∃ o1 o2, idxF es 0 (strOf x.dt) x.na true = o1 ∧ idxF es 0 (strOf x.dt) ⟨#[]⟩ false = o2 := ⟨_, _, rfl, rfl⟩
      obtain ⟨o1, o2, ho1, ho2⟩ := hof
      rw [ho1] at hl1
      rw [ho2] at hl2
      have HO := Lib.hid (And.intro ho1 ho2)
      clear ho1 ho2
      cases o1 with
      | some j =>
        simp only [Option.getD_some, Option.isSome_some] at hl1
        have hfr := HKB.out.frozen 3
        have HOWN : Hid (OwnC (wB.setCell ⟨B, 3, none⟩ (.int .i64 (j : Int))) w1.heap.size p i k cs) := Lib.hid (HW.out.1.setB HKB.out HNE.out)
        have HBW : Hid (w1.heap.size ≤ (wB.setCell ⟨B, 3, none⟩ (.int .i64 (j : Int))).heap.size ∧ Below w1.heap.size w1 (wB.setCell ⟨B, 3, none⟩ (.int .i64 (j : Int)))) := Lib.hid (by
          have hb := HB1w.out.grown (grownBy_setCell wB ⟨B, 3, none⟩ (.int .i64 (j : Int))) HWS.out (fun k1 hk => by simp only [Option.some.injEq] at hk; rw [← hk]; exact HBg.out)
          exact ⟨hb.size, hb⟩)
        have hbw := HBW.out.1
        clear hl2
        go_wp2_with (at_builtin; refine wpList_pushR slChg (by decide) rfl _ _ rfl (vs := [.string x.na, .int .u16 x.da, .int .u16 x.cl, .int .i64 (j : Int), .slice none 0 0]) rfl rfl (by simp [Value.oneCell']) rfl HOWN.out.1 (by rw [World.size_setCell]; rfl) (by omega) (by unfold maxLen; omega) hbw ?_; intro p3 c3 w3 hown3 hg3)
        have HF := Lib.hid (And.intro (HOWN.out.snoc (q := ⟨x.na, x.da, x.cl, j, none, 0, 0, []⟩) hown3 hg3 Own.nil) (HOWN.out.1.step HBW.out.2 hg3 hbw))
        have HK := Lib.hid (HMAP.out ⟨x.na, x.da, x.cl, j, none, 0, 0, []⟩ (by unfold ofE; rw [HO.out.1]; rfl))
        clear hown3 hg3
        go_roundw
        case rel => exact ⟨i + 1, c3, p3, cs ++ [⟨x.na, x.da, x.cl, j, none, 0, 0, []⟩], by omega, rfl, by go_num, HF.out.1, HK.out, HF.out.2⟩
        case measure => simp [intOf] <;> omega
      | none =>
        simp only [Option.getD_none, Option.isSome_none] at hl1
        cases o2 with
        | some j =>
          simp only [Option.getD_some, Option.isSome_some] at hl2
          have hfr := HKB.out.frozen 3
          have HOWN : Hid (OwnC (wB.setCell ⟨B, 3, none⟩ (.int .i64 (j : Int))) w1.heap.size p i k cs) := Lib.hid (HW.out.1.setB HKB.out HNE.out)
          have HBW : Hid (w1.heap.size ≤ (wB.setCell ⟨B, 3, none⟩ (.int .i64 (j : Int))).heap.size ∧ Below w1.heap.size w1 (wB.setCell ⟨B, 3, none⟩ (.int .i64 (j : Int)))) := Lib.hid (by
            have hb := HB1w.out.grown (grownBy_setCell wB ⟨B, 3, none⟩ (.int .i64 (j : Int))) HWS.out (fun k1 hk => by simp only [Option.some.injEq] at hk; rw [← hk]; exact HBg.out)
            exact ⟨hb.size, hb⟩)
          have hbw := HBW.out.1
          go_wp2_with (at_builtin; refine wpList_pushR slChg (by decide) rfl _ _ rfl (vs := [.string x.na, .int .u16 x.da, .int .u16 x.cl, .int .i64 (j : Int), .slice none 0 0]) rfl rfl (by simp [Value.oneCell']) rfl HOWN.out.1 (by rw [World.size_setCell]; rfl) (by omega) (by unfold maxLen; omega) hbw ?_; intro p3 c3 w3 hown3 hg3)
          have HF := Lib.hid (And.intro (HOWN.out.snoc (q := ⟨x.na, x.da, x.cl, j, none, 0, 0, []⟩) hown3 hg3 Own.nil) (HOWN.out.1.step HBW.out.2 hg3 hbw))
          have HK := Lib.hid (HMAP.out ⟨x.na, x.da, x.cl, j, none, 0, 0, []⟩ (by unfold ofE; rw [HO.out.1, HO.out.2]; rfl))
          clear hown3 hg3
          go_roundw
          case rel => exact ⟨i + 1, c3, p3, cs ++ [⟨x.na, x.da, x.cl, j, none, 0, 0, []⟩], by omega, rfl, by go_num, HF.out.1, HK.out, HF.out.2⟩
          case measure => simp [intOf] <;> omega
        | none =>
          simp only [Option.getD_none, Option.isSome_none] at hl2
          go_wp2_with fail
          refine (clone_any p' k' c' x.dt wB HKL.out (by have := HKL.out; omega) HW.out.2.1).mono ?_
          rintro e w5 ⟨a5, c5, rfl, hown5, hB5⟩
          have HKB5 := Lib.hid (HKB.out.below hB5)
          have hfr := HKB5.out.frozen 4
          have HOWN5 := Lib.hid (hown5.mono (Nat.zero_le _))
          have HOWN : Hid (OwnC (w5.setCell ⟨B, 4, none⟩ (.slice a5 k' c5)) w1.heap.size p i k cs) := Lib.hid ((HW.out.1.below hB5).setB HKB5.out HNE.out)
          have HDT : Hid (Own (w5.setCell ⟨B, 4, none⟩ (.slice a5 k' c5)) 0 5 bE a5 k' c5 x.dt) := Lib.hid (HOWN5.out.byType HKB5.out tne (grownBy_setCell w5 ⟨B, 4, none⟩ (.slice a5 k' c5)))
          have HBW : Hid (w1.heap.size ≤ (w5.setCell ⟨B, 4, none⟩ (.slice a5 k' c5)).heap.size ∧ Below w1.heap.size w1 (w5.setCell ⟨B, 4, none⟩ (.slice a5 k' c5))) := Lib.hid (by
            have hb5 := HB1w.out.trans (hB5.mono HWS.out)
            have hb := hb5.grown (grownBy_setCell w5 ⟨B, 4, none⟩ (.slice a5 k' c5)) hb5.size (fun k1 hk => by simp only [Option.some.injEq] at hk; rw [← hk]; exact HBg.out)
            exact ⟨hb.size, hb⟩)
          have hbw := HBW.out.1
          clear ka0 ka3 kb0 kb1 kb2 kb3 kb4 hown5 hB5 hl1 hl2
          have kb0 := HKB5.out.cell (i := 0) rfl
          have kb1 := HKB5.out.cell (i := 1) rfl
          have kb2 := HKB5.out.cell (i := 2) rfl
          have kb3 := HKB5.out.cell (i := 3) rfl
          have kb4 := HKB5.out.cell (i := 4) rfl
          go_wp2_with (at_builtin; refine wpList_pushR slChg (by decide) rfl _ _ rfl (vs := [.string x.na, .int .u16 x.da, .int .u16 x.cl, .int .i64 (-1), .slice a5 k' c5]) rfl rfl (by simp [Value.oneCell']) rfl HOWN.out.1 (by rw [World.size_setCell]; rfl) (by omega) (by unfold maxLen; omega) hbw ?_; intro p3 c3 w3 hown3 hg3)
          have HF := Lib.hid (And.intro (HOWN.out.snoc (q := ⟨x.na, x.da, x.cl, -1, a5, k', c5, x.dt⟩) hown3 hg3 HDT.out) (HOWN.out.1.step HBW.out.2 hg3 hbw))
          have HK := Lib.hid (HMAP.out ⟨x.na, x.da, x.cl, -1, a5, k', c5, x.dt⟩ (by unfold ofE; rw [HO.out.1, HO.out.2]; rfl))
          clear hown3 hg3
          go_roundw
          case rel => exact ⟨i + 1, c3, p3, cs ++ [⟨x.na, x.da, x.cl, -1, a5, k', c5, x.dt⟩], by omega, rfl, by go_num, HF.out.1, HK.out, HF.out.2⟩
          case measure => simp [intOf] <;> omega
    · have him' : i = m := by omega
      subst him'
      have HF := Lib.hid (And.intro hown (And.intro hmap hB))
      clear hown hmap hB
      go_wp2
      go_ret
      refine ⟨p, k, cs, rfl, HF.out.1.rd, ?_, HB1.out.trans (HF.out.2.2.mono HB1.out.size)⟩
      rw [HF.out.2.1, List.take_of_length_le (by rw [HL.out]; exact Nat.le_refl _)]
end Go.Proofs.Ytnfdbljeinlblaa
