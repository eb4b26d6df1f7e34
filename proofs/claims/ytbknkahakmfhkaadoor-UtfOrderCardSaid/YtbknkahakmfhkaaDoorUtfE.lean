/- utf.Encode; the document's signs, Encode. -/
import Derived.Test.YtbknkahakmfhkaaDoorUtfI
namespace Go.Proofs.YtbknkahakmfhkaaDoor
open Go.RowKit
set_option linter.unusedVariables false
set_option linter.unusedSimpArgs false

theorem uni_rd {us : List Nat} (w : World) (cs : Array Value) (fr : Nat × Nat) (h : cs.toList = us.map hE) : Rd (w.alloc (.cells cs 27 fr)) hE (some ⟨w.heap.size, 0, none⟩) us := rd_new w cs _ fr us h
/-- What Encode answers. -/
def EncPost (w : World) (l : List UInt8) (e : Ending) (w' : World) : Prop :=
  Below w.heap.size w w' ∧ e = .returned (if Lib.validD l then .tuple #[.string (strOf (bytU (unisOf l))), .bool true] else .tuple #[.string ⟨#[]⟩, .bool false])
theorem and1023 (a : Nat) (ha : a < 65536) : bits .and .u16 (a : Int) 1023 = ((a % 1024 : Nat) : Int) := by
  have := u16_and_nat a 1023 ha (by decide)
  rw [show ((1023 : Int)) = ((1023 : Nat) : Int) from rfl, this, show (1023 : Nat) = 2 ^ 10 - 1 from rfl, Nat.and_two_pow_sub_one_eq_mod]
theorem enc_step {α : Type} {E : α → Value} {T : TypeId} {w w5 w6 : World} {g k d : Nat} {q : Option Addr} {pre : List α} {X ob : Obj} (hI : w5.heap[g]? = some X) (hB : Below w.heap.size w w5) (hge : g + 1 ≤ w5.heap.size) (ho : Own (w5.alloc ob) (g + 1) T E q k d pre)
    (hg6 : (w5.alloc ob).grownBy w6 (Value.slice q k d).ownBlock) (hw : w.heap.size ≤ g) : w6.heap[g]? = some X ∧ Below w.heap.size w w6 ∧ g + 1 ≤ w6.heap.size := by
  have hr : ∀ z, (Value.slice q k d).ownBlock = some z → g + 1 ≤ z := fun z hz => (ho.1.lt z hz).1
  refine ⟨?_, (hB.alloc hB.size ob).grown hg6 (by simp; have := hB.size; omega) (fun z hz => by have := hr z hz; omega), Nat.le_trans (by simp; omega) hg6.size⟩
  rw [hg6.block g (by simp; omega) (fun e => by have := hr g e.symm; omega), Below.heap_alloc _ _ _ (by omega)]
  exact hI
set_option maxRecDepth 100000 in
set_option maxHeartbeats 8000000 in
theorem encode_any (s : ByteArray) (l : List UInt8) (w : World) (hs : Hid (s = strOf l)) (hl : l.length ≤ 400000) (hT : Tabs w) :
  Calls Tryd.prog 10 #[.string s] w (EncPost w l) := by
  have HL := Lib.hid hl
  have hsz : s.size = l.length := by rw [hs.out, str_size]
  have HT := Lib.hid hT
  clear hT
  go_enter Tryd.func10, Tryd.ntmps10
  go_wp2_with fail
  refine (valid_any s w (by omega) HT.out).mono ?_
  rintro e w1 ⟨rfl, hB1⟩
  have HB1 := Lib.hid hB1
  have hvl : Lib.validD s.data.toList = Lib.validD l := by rw [hs.out]; rfl
  rw [hvl]
  clear hB1 hvl
  cases hv : Lib.validD l with
  | false =>
    have HF : Hid (EncPost w l (.returned (.tuple #[.string ⟨#[]⟩, .bool false])) w1) := Lib.hid ⟨HB1.out, by rw [hv]; rfl⟩
    clear hv
    go_wp2
    go_ret2
    exact HF.out
  | true =>
    have HV := Lib.hid hv
    clear hv
    go_wp2
    obtain ⟨g, hg⟩ : ∃ g, g = w1.heap.size := ⟨_, rfl⟩
    have HG : Hid (w.heap.size ≤ g ∧ g + 1 ≤ (w1.iter s 0).heap.size) := Lib.hid ⟨by rw [hg]; exact HB1.out.size, by rw [hg]; simp [World.iter]⟩
    have HI : Hid ((w1.iter s 0).heap[g]? = some (.stringIter s 0)) := Lib.hid (by rw [hg]; exact World.iter_heap w1 s 0)
    have HB2 : Hid (Below w.heap.size w (w1.iter s 0)) := Lib.hid (HB1.out.alloc HB1.out.size _)
    rw [← hg]
    clear hg HB1
    go_loopw [4] (fun x4 wr => ∃ (pos k : Nat) (q : Option Addr) (d : Nat) (pre : List Nat), pos ≤ l.length ∧ k ≤ 2 * pos ∧ x4 = .slice q k d ∧ Hid (wr.heap[g]? = some (.stringIter s pos)) ∧ Hid (unisOf l = pre ++ unisOf (l.drop pos)) ∧ Own wr (g + 1) 27 hE q k d pre ∧ Below w.heap.size w wr ∧ Hid (g + 1 ≤ wr.heap.size)) (fun _ wr => itLeftU l.length g wr)
    case atStart => exact ⟨0, 0, none, 0, [], Nat.zero_le _, Nat.le_refl _, rfl, HI, Lib.hid (by simp), Own.nil, HB2.out, Lib.hid HG.out.2⟩
    case round =>
      clear HI HB2
      obtain ⟨pos, k, q, d, pre, hp, hk, rfl, hI, hst, hO, hB, hge⟩ := hrel
      by_cases hpl : pos < l.length
      · have hnx := fun ty => run_next_it (P := Tryd.prog) hI.out (show pos < s.size by omega) ty
        have hdec : Utf8.decode s pos = Lib.decodeL (l.drop pos) := by rw [hs.out]; exact decode_str l pos
        rw [hdec] at hnx
        have hne : l.drop pos ≠ [] := by intro e; have := congrArg List.length e; rw [List.length_drop] at this; simp at this; omega
        have HST := Lib.hid (unisOf_step hne)
        have hrl := Lib.decodeL_rune (l.drop pos)
        have hwd := Lib.decodeL_width (l.drop pos)
        have hle := Lib.decodeL_le (l.drop pos) hne
        rw [List.length_drop] at hle
        generalize hcd : Lib.decodeL (l.drop pos) = cd at *
        obtain ⟨c, m⟩ := cd
        replace hrl : c ≤ 1114111 := hrl
        replace hwd : 1 ≤ m := hwd
        replace hle : m ≤ l.length - pos := hle
        replace hnx : ∀ ty, (Instr.next (.pointer (some ⟨g, 0, none⟩)) true ty).run Tryd.prog wr = .ok (.tuple #[.bool true, .int .i64 pos, .int .i32 (c : Int)]) (setIt wr g s (pos + m)) := hnx
        have hgs := grownBy_setIt wr g s (pos + m)
        have hI2 : (setIt wr g s (pos + m)).heap[g]? = some (.stringIter s (pos + m)) := setIt_same (by have := hge.out; omega)
        have HM : Hid (itLeftU l.length g wr = l.length - pos) := Lib.hid (itLeftU_eq hI.out)
        have hO2 : Own (setIt wr g s (pos + m)) (g + 1) 27 hE q k d pre := hO.grown hgs (fun z hz e => by
          rcases hO.blk with ⟨h, _⟩ | ⟨z', h, h2, _⟩
          · rw [h] at hz; cases hz
          · rw [h] at hz; simp only [Option.some.injEq, Addr.mk.injEq, and_true] at hz e; omega)
        have hB2 : Below w.heap.size w (setIt wr g s (pos + m)) := hB.grown hgs hB.size (fun z hz => by simp only [Option.some.injEq] at hz; have := HG.out.1; omega)
        have hge2 : g + 1 ≤ (setIt wr g s (pos + m)).heap.size := Nat.le_trans hge.out hgs.size
        have HW := Lib.hid (And.intro hI2 (And.intro hO2 (And.intro hB2 hge2)))
        have HU : Hid (unisOf l = (pre ++ uniR c) ++ unisOf (l.drop (pos + m))) := Lib.hid (by
          rw [hst.out, HST.out, List.drop_drop, List.append_assoc])
        clear hI hO hB hge hgs hI2 hO2 hB2 hge2 hcd hne hdec HST hst
        generalize setIt wr g s (pos + m) = w5 at *
        have hge5 := HW.out.2.2.2
        by_cases h16 : c < 65536
        · have HR : Hid (uniR c = [c]) := Lib.hid (if_pos h16)
          have g1 : ¬ (65536 : Int) ≤ (c : Int) := by omega
          have g2 : IntKind.u16.wrap (c : Int) = (c : Int) := by rw [IntKind.wrap_u16]; omega
          have HE : Hid (Rd (w5.alloc (.cells #[.int .u16 (c : Int)] 27)) hE (some ⟨w5.heap.size, 0, none⟩) [c]) := Lib.hid (uni_rd w5 _ _ rfl)
          go_wp2_with (at_builtin; refine wpList_cat slU16 rfl _ _ rfl rfl (HW.out.2.1.alloc (.cells #[.int .u16 (c : Int)] 27)) rfl rfl HE.out (hOne _) (by omega) (by unfold maxLen; omega) (by simp; omega) ?_; intro a6 c6 w6 hown6 hg6 _ _)
          have HF := Lib.hid (And.intro hown6 (enc_step HW.out.1 HW.out.2.2.1 HW.out.2.2.2 (HW.out.2.1.alloc (.cells #[.int .u16 (c : Int)] 27)) hg6 HG.out.1))
          rw [← HR.out] at HF
          clear hown6 hg6
          go_roundw
          case rel => exact ⟨pos + m, k + 1, a6, c6, pre ++ uniR c, by omega, by omega, rfl, Lib.hid HF.out.2.1, HU, by rw [HR.out] at HF ⊢; exact HF.out.1, HF.out.2.2.1, Lib.hid HF.out.2.2.2⟩
          case measure => rw [HM.out, itLeftU_eq HF.out.2.1]; omega
        · obtain ⟨D, hD⟩ : ∃ D, D = c - 65536 := ⟨c - 65536, rfl⟩
          have HR : Hid (uniR c = [55296 + D / 1024, 56320 + D % 1024]) := Lib.hid (by unfold uniR; rw [if_neg h16, ← hD])
          have g1 : (65536 : Int) ≤ (c : Int) := by omega
          have g2 : (c : Int) - 65536 = (D : Int) := by omega
          have hDr : D < 1048576 := by omega
          clear hD
          obtain ⟨A, HA⟩ : ∃ A, Hid (A = D / 1024) := ⟨_, Lib.hid rfl⟩
          obtain ⟨B, HBq⟩ : ∃ B, Hid (B = D % 1024) := ⟨_, Lib.hid rfl⟩
          have hA1 : A < 1024 := by have := HA.out; omega
          have hB1 : B < 1024 := by have := HBq.out; omega
          have g3 : (D : Int) / 1024 = (A : Int) := by rw [HA.out]; omega
          have g4 : bits .and .u16 (IntKind.u16.wrap (D : Int)) 1023 = (B : Int) := by
            have e1 : IntKind.u16.wrap (D : Int) = ((D % 65536 : Nat) : Int) := by rw [IntKind.wrap_u16]; omega
            rw [e1, and1023 _ (by omega), HBq.out]
            omega
          have g5 : IntKind.u16.wrap (A : Int) = (A : Int) := by rw [IntKind.wrap_u16]; omega
          rw [← HA.out, ← HBq.out] at HR
          have HE : Hid (Rd (w5.alloc (.cells #[.int .u16 (55296 + (A : Int)), .int .u16 (56320 + (B : Int))] 27)) hE (some ⟨w5.heap.size, 0, none⟩) [55296 + A, 56320 + B]) := Lib.hid (uni_rd w5 _ _ (by simp))
          go_wp2_with (at_builtin; refine wpList_cat slU16 rfl _ _ rfl rfl (HW.out.2.1.alloc (.cells #[.int .u16 (55296 + (A : Int)), .int .u16 (56320 + (B : Int))] 27)) rfl rfl HE.out (hOne _) (by omega) (by unfold maxLen; omega) (by simp; omega) ?_; intro a6 c6 w6 hown6 hg6 _ _)
          have HF := Lib.hid (And.intro hown6 (enc_step HW.out.1 HW.out.2.2.1 HW.out.2.2.2 (HW.out.2.1.alloc (.cells #[.int .u16 (55296 + (A : Int)), .int .u16 (56320 + (B : Int))] 27)) hg6 HG.out.1))
          clear hown6 hg6
          go_roundw
          case rel => exact ⟨pos + m, k + 2, a6, c6, pre ++ uniR c, by omega, by omega, rfl, Lib.hid HF.out.2.1, HU, by rw [HR.out]; exact HF.out.1, HF.out.2.2.1, Lib.hid HF.out.2.2.2⟩
          case measure => rw [HM.out, itLeftU_eq HF.out.2.1]; omega
      · have hpl' : pos = l.length := by omega
        have HU : Hid (unisOf l = pre) := Lib.hid (by rw [hst.out, hpl', List.drop_length]; simp [unisOf, runesOf, runesL])
        subst hpl'
        have hnx := fun ty => run_next_it_end (P := Tryd.prog) hI.out (show ¬ l.length < s.size by omega) ty
        have HF := Lib.hid (And.intro hO hB)
        have HUL := Lib.hid (unisOf_lt l.length l (Nat.le_refl _))
        clear hO hB hI
        go_wp2_with fail
        refine (bytes_any q k d pre wr HF.out.1.len (by omega) HF.out.1.rd (by rw [← HU.out]; exact HUL.out.1)).mono ?_
        rintro e w7 ⟨rfl, hB7⟩
        have HB7 := Lib.hid (HF.out.2.trans (hB7.mono HF.out.2.size))
        clear hB7
        rw [← HU.out]
        have HFN : Hid (EncPost w l (.returned (.tuple #[.string (strOf (bytU (unisOf l))), .bool true])) w7) := Lib.hid ⟨HB7.out, by rw [HV.out]; rfl⟩
        go_wp2
        go_ret2
        exact HFN.out
end Go.Proofs.YtbknkahakmfhkaaDoor
