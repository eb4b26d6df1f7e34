/- The document's signs, Encode. -/
import Derived.Test.YtbknkahakmfhkaaDoorUtfE
namespace Go.Proofs.YtbknkahakmfhkaaDoor
open Go.RowKit
set_option linter.unusedVariables false
set_option linter.unusedSimpArgs false

abbrev zE : Nat → Value := fun x => .int .i64 (x : Int)
theorem slIntU : SlT Tryd.prog 37 3 (.int .i64 0) 1 8 := ⟨Tryd.underlying37, by kernel_rfl, rfl⟩
theorem rep_good (r : List UInt8) (h0 : 2 < r.length) (a : r[0].toNat = 239) (b : r[1].toNat = 191) (c : r[2].toNat = 189) : Lib.decodeL r = (65533, 3) := by
  rw [Lib.decodeL_N]
  have e0 : r.getD 0 0 = r[0] := by rw [List.getD_eq_getElem?_getD, List.getElem?_eq_getElem (by omega)]; rfl
  have e1 : r.getD 1 0 = r[1] := by rw [List.getD_eq_getElem?_getD, List.getElem?_eq_getElem (by omega)]; rfl
  have e2 : r.getD 2 0 = r[2] := by rw [List.getD_eq_getElem?_getD, List.getElem?_eq_getElem (by omega)]; rfl
  rw [e0, e1, e2, a, b, c]
  obtain ⟨n, hn⟩ : ∃ n, r.length = n + 3 := ⟨r.length - 3, by omega⟩
  rw [hn]
  generalize (r.getD 3 0).toNat = d
  simp [Lib.decodeN]
theorem rep_bad (r : List UInt8) (hne : r ≠ []) (h1 : (Lib.decodeL r).1 = 65533) (h2 : (Lib.decodeL r).2 ≠ 1) : ∃ h0 : 2 < r.length, r[0].toNat = 239 ∧ r[1].toNat = 191 ∧ r[2].toNat = 189 := by
  have h := Lib.encode_decode r hne (fun h => h2 h.2)
  rw [h1] at h
  have e : Lib.encodeRune ((65533 : Nat) : Int) = [239, 191, 189] := by decide +kernel
  rw [e] at h
  have hl := congrArg List.length h
  rw [List.length_take] at hl
  have h0 : 2 < r.length := by simp at hl; omega
  refine ⟨h0, ?_⟩
  have hm : 3 ≤ (Lib.decodeL r).2 := by simp at hl; omega
  have g : ∀ i (hi : i < 3), r[i]? = [(239 : UInt8), 191, 189][i]? := by
    intro i hi
    rw [h, List.getElem?_take, if_pos (by omega)]
  have g0 := g 0 (by omega)
  have g1 := g 1 (by omega)
  have g2 := g 2 (by omega)
  rw [List.getElem?_eq_getElem (by omega)] at g0 g1 g2
  simp at g0 g1 g2
  rw [g0, g1, g2]
  exact ⟨rfl, rfl, rfl⟩
def SigPost (w : World) (l : List UInt8) (e : Ending) (w' : World) : Prop :=
  Below w.heap.size w w' ∧ ((Lib.validD l = false ∧ e = .returned (.tuple #[.slice none 0 0, .bool false])) ∨
    (Lib.validD l = true ∧ ∃ p n c, e = .returned (.tuple #[.slice p n c, .bool true]) ∧ Own w' w.heap.size 3 zE p n c (runesOf l)))
theorem zOne (k : List Nat) : ∀ y ∈ k, (zE y).oneCell' = true := fun _ _ => rfl
theorem runesOf_le : ∀ (n : Nat) (l : List UInt8), l.length ≤ n → (runesOf l).length ≤ l.length ∧ ∀ x ∈ runesOf l, x ≤ 1114111
  | _, [], _ => ⟨Nat.le_refl _, fun x hx => by simp [runesOf, runesL] at hx⟩
  | 0, b :: r, h => by simp at h
  | n + 1, b :: r, h => by
    have h1 := Lib.decodeL_width (b :: r)
    have h2 := Lib.decodeL_rune (b :: r)
    obtain ⟨h4, h5⟩ := runesOf_le n ((b :: r).drop (Lib.decodeL (b :: r)).2) (by rw [List.length_drop]; simp at h ⊢; omega)
    rw [List.length_drop] at h4
    rw [runesOf_step (by simp)]
    refine ⟨by rw [List.length_cons]; simp at h4 ⊢; omega, fun x hx => ?_⟩
    rcases List.mem_cons.1 hx with rfl | hx
    · exact h2
    · exact h5 x hx
set_option maxRecDepth 100000 in
set_option maxHeartbeats 8000000 in
theorem signs_any (s : ByteArray) (l : List UInt8) (w : World) (hs : Hid (s = strOf l)) (hl : l.length ≤ 400000) :
  Calls Tryd.prog 20 #[.string s] w (SigPost w l) := by
  have HL := Lib.hid hl
  have hsz : s.size = l.length := by rw [hs.out, str_size]
  have hget : ∀ (i : Nat) (h : i < l.length), s[i]'(by omega) = l[i] := by
    intro i h
    have h2 : ∀ (q : ByteArray) (hq : i < q.size), q = strOf l → q[i]'hq = l[i] := by
      rintro q hq rfl; exact str_get _ h
    exact h2 s (by omega) hs.out
  have HGET := Lib.hid hget
  clear hget
  go_enter Tryd.func20, Tryd.ntmps20
  go_wp2
  obtain ⟨g, hg⟩ : ∃ g, g = w.heap.size := ⟨_, rfl⟩
  have HG : Hid (w.heap.size ≤ g ∧ g + 1 ≤ (w.iter s 0).heap.size) := Lib.hid ⟨by omega, by rw [hg]; simp [World.iter]⟩
  have HI : Hid ((w.iter s 0).heap[g]? = some (.stringIter s 0)) := Lib.hid (by rw [hg]; exact World.iter_heap w s 0)
  have HB2 : Hid (Below w.heap.size w (w.iter s 0)) := Lib.hid (below_alloc _ _)
  rw [← hg]
  clear hg
  go_loopw [4] (fun x4 wr => ∃ (pos k : Nat) (q : Option Addr) (d : Nat) (pre : List Nat), pos ≤ l.length ∧ k ≤ pos ∧ x4 = .slice q k d ∧ Hid (wr.heap[g]? = some (.stringIter s pos)) ∧ Hid (runesOf l = pre ++ runesOf (l.drop pos) ∧ Lib.validD l = Lib.validD (l.drop pos)) ∧ Own wr (g + 1) 3 zE q k d pre ∧ Below w.heap.size w wr ∧ Hid (g + 1 ≤ wr.heap.size)) (fun _ wr => itLeftU l.length g wr)
  case atStart => exact ⟨0, 0, none, 0, [], Nat.zero_le _, Nat.le_refl _, rfl, HI, Lib.hid (by simp), Own.nil, HB2.out, Lib.hid HG.out.2⟩
  case round =>
    clear HI HB2
    obtain ⟨pos, k, q, d, pre, hp, hk, rfl, hI, hst, hO, hB, hge⟩ := hrel
    by_cases hpl : pos < l.length
    · have hnx := fun ty => run_next_it (P := Tryd.prog) hI.out (show pos < s.size by omega) ty
      have hdec : Utf8.decode s pos = Lib.decodeL (l.drop pos) := by rw [hs.out]; exact decode_str l pos
      rw [hdec] at hnx
      have hne : l.drop pos ≠ [] := by intro e; have := congrArg List.length e; rw [List.length_drop] at this; simp at this; omega
      have HST := Lib.hid (And.intro (runesOf_step hne) (Lib.validD_step (l.drop pos) hne))
      have hrl := Lib.decodeL_rune (l.drop pos)
      have hwd := Lib.decodeL_width (l.drop pos)
      have hle := Lib.decodeL_le (l.drop pos) hne
      rw [List.length_drop] at hle
      have HBAD := Lib.hid (rep_bad (l.drop pos) hne)
      have HGOOD : Hid (∀ (h2 : pos + 2 < l.length), l[pos].toNat = 239 → l[pos + 1].toNat = 191 → l[pos + 2].toNat = 189 → Lib.decodeL (l.drop pos) = (65533, 3)) := Lib.hid (fun h2 a b c => rep_good (l.drop pos) (by rw [List.length_drop]; omega) (by rw [List.getElem_drop]; exact a) (by rw [List.getElem_drop]; exact b) (by rw [List.getElem_drop]; exact c))
      generalize hcd : Lib.decodeL (l.drop pos) = cd at *
      obtain ⟨c, m⟩ := cd
      replace hrl : c ≤ 1114111 := hrl
      replace hwd : 1 ≤ m := hwd
      replace hle : m ≤ l.length - pos := hle
      replace hnx : ∀ ty, (Instr.next (.pointer (some ⟨g, 0, none⟩)) true ty).run Tryd.prog wr = .ok (.tuple #[.bool true, .int .i64 pos, .int .i32 (c : Int)]) (setIt wr g s (pos + m)) := hnx
      have hgs := grownBy_setIt wr g s (pos + m)
      have hI2 : (setIt wr g s (pos + m)).heap[g]? = some (.stringIter s (pos + m)) := setIt_same (by have := hge.out; omega)
      have HM : Hid (itLeftU l.length g wr = l.length - pos) := Lib.hid (itLeftU_eq hI.out)
      have hO2 : Own (setIt wr g s (pos + m)) (g + 1) 3 zE q k d pre := hO.grown hgs (fun z hz e => by
        rcases hO.blk with ⟨h, _⟩ | ⟨z', h, h2, _⟩
        · rw [h] at hz; cases hz
        · rw [h] at hz; simp only [Option.some.injEq, Addr.mk.injEq, and_true] at hz e; omega)
      have hB2 : Below w.heap.size w (setIt wr g s (pos + m)) := hB.grown hgs hB.size (fun z hz => by simp only [Option.some.injEq] at hz; have := HG.out.1; omega)
      have hge2 : g + 1 ≤ (setIt wr g s (pos + m)).heap.size := Nat.le_trans hge.out hgs.size
      have HW := Lib.hid (And.intro hI2 (And.intro hO2 (And.intro hB2 hge2)))
      have HU : Hid (runesOf l = (pre ++ [c]) ++ runesOf (l.drop (pos + m))) := Lib.hid (by
        rw [hst.out.1, HST.out.1, List.drop_drop, List.append_assoc]; rfl)
      have HVD : Hid (Lib.validD l = if c = 65533 ∧ m = 1 then false else Lib.validD (l.drop (pos + m))) := Lib.hid (by rw [hst.out.2, HST.out.2, List.drop_drop])
      have hg0 := HGET.out pos hpl
      clear hI hO hB hge hgs hI2 hO2 hB2 hge2 hcd hne hdec HST hst
      generalize setIt wr g s (pos + m) = w5 at *
      have hge5 := HW.out.2.2.2
      have hposI : (pos : Int) < (l.length : Int) := by omega
      by_cases hc65 : c = 65533
      · by_cases hm1 : m = 1
        · have hno : ¬ ∃ h2 : pos + 2 < l.length, l[pos].toNat = 239 ∧ l[pos + 1].toNat = 191 ∧ l[pos + 2].toNat = 189 := by
            rintro ⟨h2, a, b, d⟩
            have := HGOOD.out h2 a b d
            simp only [Prod.mk.injEq] at this
            omega
          by_cases h2 : pos + 2 < l.length
          · have k2 : ¬ (l.length : Int) ≤ (pos : Int) + 2 := by omega
            have hg1 := HGET.out (pos + 1) (by omega)
            have hg2 := HGET.out (pos + 2) (by omega)
            have i1 : ((pos : Int) + 1).toNat = pos + 1 := by omega
            have i2 : ((pos : Int) + 2).toNat = pos + 2 := by omega
            have i3 : (pos : Int) + 1 < (l.length : Int) := by omega
            have i4 : (pos : Int) + 2 < (l.length : Int) := by omega
            have hno2 : ¬ (l[pos].toNat = 239 ∧ l[pos + 1].toNat = 191 ∧ l[pos + 2].toNat = 189) := fun h => hno ⟨h2, h⟩
            clear hno HGOOD HBAD
            generalize l[pos] = b0 at *
            generalize l[pos + 1] = b1 at *
            generalize l[pos + 2] = b2 at *
            by_cases q0 : b0.toNat = 239
            · have e0 : ((b0.toNat : Int) != 239) = false := by simp; omega
              by_cases q1 : b1.toNat = 191
              · have e1 : ((b1.toNat : Int) != 191) = false := by simp; omega
                have e2 : ((b2.toNat : Int) != 189) = true := by simp; omega
                clear q0 q1 hno2
                have HNO : Hid (Lib.validD l = false) := Lib.hid (by rw [HVD.out, if_pos ⟨hc65, hm1⟩])
                have HFN : Hid (SigPost w l (.returned (.tuple #[.slice none 0 0, .bool false])) w5) := Lib.hid ⟨HW.out.2.2.1, .inl ⟨HNO.out, rfl⟩⟩
                subst hc65
                go_wp2
                go_ret2
                exact HFN.out
              · have e1 : ((b1.toNat : Int) != 191) = true := by simp; omega
                clear q0 q1 hno2
                have HNO : Hid (Lib.validD l = false) := Lib.hid (by rw [HVD.out, if_pos ⟨hc65, hm1⟩])
                have HFN : Hid (SigPost w l (.returned (.tuple #[.slice none 0 0, .bool false])) w5) := Lib.hid ⟨HW.out.2.2.1, .inl ⟨HNO.out, rfl⟩⟩
                subst hc65
                go_wp2
                go_ret2
                exact HFN.out
            · have e0 : ((b0.toNat : Int) != 239) = true := by simp; omega
              clear q0 hno2
              have HNO : Hid (Lib.validD l = false) := Lib.hid (by rw [HVD.out, if_pos ⟨hc65, hm1⟩])
              have HFN : Hid (SigPost w l (.returned (.tuple #[.slice none 0 0, .bool false])) w5) := Lib.hid ⟨HW.out.2.2.1, .inl ⟨HNO.out, rfl⟩⟩
              subst hc65
              go_wp2
              go_ret2
              exact HFN.out
          · have k2 : (l.length : Int) ≤ (pos : Int) + 2 := by omega
            clear hno HGOOD HBAD
            have HNO : Hid (Lib.validD l = false) := Lib.hid (by rw [HVD.out, if_pos ⟨hc65, hm1⟩])
            have HFN : Hid (SigPost w l (.returned (.tuple #[.slice none 0 0, .bool false])) w5) := Lib.hid ⟨HW.out.2.2.1, .inl ⟨HNO.out, rfl⟩⟩
            subst hc65
            go_wp2
            go_ret2
            exact HFN.out
        · obtain ⟨h2', a, b, d'⟩ := HBAD.out hc65 hm1
          have h2 : pos + 2 < l.length := by rw [List.length_drop] at h2'; omega
          rw [List.getElem_drop] at a b d'
          replace a : l[pos].toNat = 239 := a
          replace b : l[pos + 1].toNat = 191 := b
          replace d' : l[pos + 2].toNat = 189 := d'
          have k2 : ¬ (l.length : Int) ≤ (pos : Int) + 2 := by omega
          have hg1 := HGET.out (pos + 1) (by omega)
          have hg2 := HGET.out (pos + 2) (by omega)
          have i1 : ((pos : Int) + 1).toNat = pos + 1 := by omega
          have i2 : ((pos : Int) + 2).toNat = pos + 2 := by omega
          have i3 : (pos : Int) + 1 < (l.length : Int) := by omega
          have i4 : (pos : Int) + 2 < (l.length : Int) := by omega
          have HVN : Hid (Lib.validD l = Lib.validD (l.drop (pos + m))) := Lib.hid (by rw [HVD.out, if_neg (fun h => hm1 h.2)])
          clear HGOOD HBAD hm1
          generalize l[pos] = b0 at *
          generalize l[pos + 1] = b1 at *
          generalize l[pos + 2] = b2 at *
          have e0 : ((b0.toNat : Int) != 239) = false := by simp; omega
          have e1 : ((b1.toNat : Int) != 191) = false := by simp; omega
          have e2 : ((b2.toNat : Int) != 189) = false := by simp; omega
          have hc6 : ((c : Int) == 65533) = true := by simp; omega
          clear hc65
          have hcell : Hid ((w5.alloc (.cells #[.int .i64 (c : Int)] 3)).cell? ⟨w5.heap.size, 0, none⟩ = some (zE c)) := Lib.hid (cell_push rfl w5 _)
          have HE : Hid (Rd (w5.alloc (.cells #[.int .i64 (c : Int)] 3)) zE (some ⟨w5.heap.size, 0, none⟩) [c]) := Lib.hid (rd_new w5 _ _ _ _ rfl)
          go_wp2_with (at_builtin; refine wpList_cat slIntU rfl _ _ rfl rfl (HW.out.2.1.alloc (.cells #[.int .i64 (c : Int)] 3)) rfl rfl HE.out (zOne _) (by omega) (by unfold maxLen; omega) (by simp; omega) ?_; intro a6 c6 w6 hown6 hg6 _ _)
          have HF := Lib.hid (And.intro hown6 (enc_step HW.out.1 HW.out.2.2.1 HW.out.2.2.2 (HW.out.2.1.alloc (.cells #[.int .i64 (c : Int)] 3)) hg6 HG.out.1))
          clear hown6 hg6
          go_roundw
          case rel => exact ⟨pos + m, k + 1, a6, c6, pre ++ [c], by omega, by omega, rfl, Lib.hid HF.out.2.1, Lib.hid ⟨HU.out, HVN.out⟩, HF.out.1, HF.out.2.2.1, Lib.hid HF.out.2.2.2⟩
          case measure => rw [HM.out, itLeftU_eq HF.out.2.1]; omega
      · have HVN : Hid (Lib.validD l = Lib.validD (l.drop (pos + m))) := Lib.hid (by rw [HVD.out, if_neg (fun h => hc65 h.1)])
        have hc6 : ((c : Int) == 65533) = false := by simp; omega
        clear HGOOD HBAD hc65
        have hcell : Hid ((w5.alloc (.cells #[.int .i64 (c : Int)] 3)).cell? ⟨w5.heap.size, 0, none⟩ = some (zE c)) := Lib.hid (cell_push rfl w5 _)
        have HE : Hid (Rd (w5.alloc (.cells #[.int .i64 (c : Int)] 3)) zE (some ⟨w5.heap.size, 0, none⟩) [c]) := Lib.hid (rd_new w5 _ _ _ _ rfl)
        go_wp2_with (at_builtin; refine wpList_cat slIntU rfl _ _ rfl rfl (HW.out.2.1.alloc (.cells #[.int .i64 (c : Int)] 3)) rfl rfl HE.out (zOne _) (by omega) (by unfold maxLen; omega) (by simp; omega) ?_; intro a6 c6 w6 hown6 hg6 _ _)
        have HF := Lib.hid (And.intro hown6 (enc_step HW.out.1 HW.out.2.2.1 HW.out.2.2.2 (HW.out.2.1.alloc (.cells #[.int .i64 (c : Int)] 3)) hg6 HG.out.1))
        clear hown6 hg6
        go_roundw
        case rel => exact ⟨pos + m, k + 1, a6, c6, pre ++ [c], by omega, by omega, rfl, Lib.hid HF.out.2.1, Lib.hid ⟨HU.out, HVN.out⟩, HF.out.1, HF.out.2.2.1, Lib.hid HF.out.2.2.2⟩
        case measure => rw [HM.out, itLeftU_eq HF.out.2.1]; omega
    · have hpl' : pos = l.length := by omega
      have HU : Hid (runesOf l = pre ∧ Lib.validD l = true) := Lib.hid ⟨by rw [hst.out.1, hpl', List.drop_length]; simp [runesOf, runesL], by rw [hst.out.2, hpl', List.drop_length]; rfl⟩
      subst hpl'
      have hnx := fun ty => run_next_it_end (P := Tryd.prog) hI.out (show ¬ l.length < s.size by omega) ty
      have HF : Hid (SigPost w l (.returned (.tuple #[.slice q k d, .bool true])) wr) := Lib.hid ⟨hB, .inr ⟨HU.out.2, q, k, d, rfl, by rw [HU.out.1]; exact hO.mono (by have := HG.out.1; omega)⟩⟩
      clear hO hB hI
      go_wp2
      go_ret2
      exact HF.out
set_option maxRecDepth 100000 in
set_option maxHeartbeats 8000000 in
theorem rencode_any (s : ByteArray) (l : List UInt8) (w : World) (hs : Hid (s = strOf l)) (hl : l.length ≤ 400000) :
  Calls Tryd.prog 11 #[.string s] w (EncPost w l) := by
  have HL := Lib.hid hl
  go_enter Tryd.func11, Tryd.ntmps11
  go_wp2_with fail
  refine (signs_any s l w hs hl).mono ?_
  rintro e w1 ⟨hB1, h⟩
  have HB1 := Lib.hid hB1
  clear hB1
  rcases h with ⟨hv, rfl⟩ | ⟨hv, p, n, c, rfl, ho⟩
  · have HF : Hid (EncPost w l (.returned (.tuple #[.string ⟨#[]⟩, .bool false])) w1) := Lib.hid ⟨HB1.out, by rw [hv]; rfl⟩
    clear hv
    go_wp2
    go_ret2
    exact HF.out
  · have HV := Lib.hid hv
    have HO := Lib.hid (And.intro ho.len (And.intro ho.rd (runesOf_le l.length l (Nat.le_refl _))))
    have hn : n ≤ 400000 := by have := HO.out.1; have := HO.out.2.2.1; omega
    clear hv ho
    go_wp2
    go_loopw [6, 18] (fun x6 x18 wr => ∃ (i k : Nat) (q : Option Addr) (d : Nat), i ≤ n ∧ k ≤ 2 * i ∧ x6 = .slice q k d ∧ x18 = .int .i64 i ∧ Own wr w1.heap.size 27 hE q k d (((runesOf l).take i).flatMap uniR) ∧ Below w1.heap.size w1 wr) (fun _ x18 _ => n - (intOf x18).toNat)
    case atStart => exact ⟨0, 0, none, 0, Nat.zero_le _, Nat.le_refl _, rfl, rfl, Own.nil, Below.refl _ _⟩
    case round =>
      obtain ⟨i, k, q, d, hi, hk, rfl, rfl, hO, hB⟩ := hrel
      by_cases hin : i < n
      · have hil : i < (runesOf l).length := by rw [HO.out.1]; exact hin
        obtain ⟨b, off, rfl, -, hc⟩ := (HO.out.2.1.below hB).at hil
        replace hc : wr.cell? ⟨b, off + i, none⟩ = some (.int .i64 (((runesOf l)[i] : Nat) : Int)) := hc
        have hrl := HO.out.2.2.2 (runesOf l)[i] (List.getElem_mem hil)
        have HST : Hid (((runesOf l).take (i + 1)).flatMap uniR = ((runesOf l).take i).flatMap uniR ++ uniR (runesOf l)[i]) := Lib.hid (by
          rw [List.take_succ_eq_append_getElem hil, List.flatMap_append]; simp)
        have HW := Lib.hid (And.intro hO hB)
        have hbs := hB.size
        clear hO hB
        generalize (runesOf l)[i] = c at *
        by_cases h16 : c < 65536
        · have HR : Hid (uniR c = [c]) := Lib.hid (if_pos h16)
          have g1 : (c : Int) < 65536 := by omega
          have g2 : IntKind.u16.wrap (c : Int) = (c : Int) := by rw [IntKind.wrap_u16]; omega
          have HE : Hid (Rd (wr.alloc (.cells #[.int .u16 (c : Int)] 27)) hE (some ⟨wr.heap.size, 0, none⟩) [c]) := Lib.hid (uni_rd wr _ _ rfl)
          go_wp2_with (at_builtin; refine wpList_cat slU16 rfl _ _ rfl rfl (HW.out.1.alloc (.cells #[.int .u16 (c : Int)] 27)) rfl rfl HE.out (hOne _) (by omega) (by unfold maxLen; omega) (by simp; omega) ?_; intro a6 c6 w6 hown6 hg6 _ _)
          have HF := Lib.hid (And.intro hown6 ((HW.out.1.alloc (.cells #[.int .u16 (c : Int)] 27)).step (HW.out.2.alloc hbs _) hg6 (by simp; omega)))
          rw [← HR.out, ← HST.out] at HF
          clear hown6 hg6
          go_roundw
          case rel => exact ⟨i + 1, k + 1, a6, c6, by omega, by omega, rfl, by go_num, HF.out⟩
          case measure => simp [intOf] <;> omega
        · obtain ⟨D, hD⟩ : ∃ D, D = c - 65536 := ⟨c - 65536, rfl⟩
          have HR0 : Hid (uniR c = [55296 + D / 1024, 56320 + D % 1024]) := Lib.hid (by unfold uniR; rw [if_neg h16, ← hD])
          have g1 : ¬ (c : Int) < 65536 := by omega
          have g2 : (c : Int) - 65536 = (D : Int) := by omega
          have hDr : D < 1048576 := by omega
          clear hD
          obtain ⟨A, HA⟩ : ∃ A, Hid (A = D / 1024) := ⟨_, Lib.hid rfl⟩
          obtain ⟨B, HBq⟩ : ∃ B, Hid (B = D % 1024) := ⟨_, Lib.hid rfl⟩
          have hA1 : A < 1024 := by have := HA.out; omega
          have hB1 : B < 1024 := by have := HBq.out; omega
          have g3 : (D : Int) / 1024 = (A : Int) := by rw [HA.out]; omega
          have g4 : (D : Int) % 1024 = (B : Int) := by rw [HBq.out]; omega
          have HR : Hid (uniR c = [55296 + A, 56320 + B]) := Lib.hid (by rw [HR0.out, HA.out, HBq.out])
          have HE : Hid (Rd (wr.alloc (.cells #[.int .u16 (55296 + (A : Int)), .int .u16 (56320 + (B : Int))] 27)) hE (some ⟨wr.heap.size, 0, none⟩) [55296 + A, 56320 + B]) := Lib.hid (uni_rd wr _ _ (by simp))
          go_wp2_with (at_builtin; refine wpList_cat slU16 rfl _ _ rfl rfl (HW.out.1.alloc (.cells #[.int .u16 (55296 + (A : Int)), .int .u16 (56320 + (B : Int))] 27)) rfl rfl HE.out (hOne _) (by omega) (by unfold maxLen; omega) (by simp; omega) ?_; intro a6 c6 w6 hown6 hg6 _ _)
          have HF := Lib.hid (And.intro hown6 ((HW.out.1.alloc (.cells #[.int .u16 (55296 + (A : Int)), .int .u16 (56320 + (B : Int))] 27)).step (HW.out.2.alloc hbs _) hg6 (by simp; omega)))
          rw [← HR.out, ← HST.out] at HF
          clear hown6 hg6
          go_roundw
          case rel => exact ⟨i + 1, k + 2, a6, c6, by omega, by omega, rfl, by go_num, HF.out⟩
          case measure => simp [intOf] <;> omega
      · have hin' : i = n := by omega
        have htk : (runesOf l).take i = runesOf l := List.take_of_length_le (by rw [HO.out.1]; omega)
        rw [htk] at hO
        have HF := Lib.hid (And.intro hO hB)
        have HUL := Lib.hid (unisOf_lt l.length l (Nat.le_refl _))
        subst hin'
        clear hO hB htk
        go_wp2_with fail
        refine (rbytes_any q k d (unisOf l) wr HF.out.1.len (by omega) HF.out.1.rd HUL.out.1).mono ?_
        rintro e w7 ⟨rfl, hB7⟩
        have hb := HF.out.2.trans (hB7.mono HF.out.2.size)
        have HFN : Hid (EncPost w l (.returned (.tuple #[.string (strOf (bytU (unisOf l))), .bool true])) w7) := Lib.hid ⟨HB1.out.trans (hb.mono HB1.out.size), by rw [HV.out]; rfl⟩
        clear hB7 hb
        go_wp2
        go_ret2
        exact HFN.out
end Go.Proofs.YtbknkahakmfhkaaDoor
