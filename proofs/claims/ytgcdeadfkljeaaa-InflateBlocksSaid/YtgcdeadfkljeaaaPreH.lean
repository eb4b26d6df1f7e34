/- The document's Get. -/
import Derived.Test.YtgcdeadfkljeaaaPreD
import Derived.Test.YtgcdeadfkljeaaaBnd
namespace Go.Proofs.Ytgcdeadfkljeaaa
open Go.RowKit
set_option linter.unusedVariables false
set_option linter.unusedSimpArgs false

/-- Does a longer word begin so? -/
def moreW (s x : List Bool) : Bool := decide (s.length < x.length) && decide (x.take s.length = s)
def isW (s x : List Bool) : Bool := decide (x ≠ []) && decide (x = s)
/-- What is read of bits B, from the m-th one on. -/
def refG (ws : List (List Bool)) (B : List Bool) : Nat → Nat → Int × Int × Nat
  | 0, _ => (0, 12, 0)
  | k + 1, m => match ws.findIdx? (isW (B.take m)) with
    | some i => ((i : Int), 0, m)
    | none => if ws.any (moreW (B.take m)) then (match B[m]? with
      | none => (0, 6, 0)
      | some _ => refG ws B k (m + 1)) else (0, 12, 0)
def refS (ws : List (List Bool)) (B : List Bool) : Int × Int × Nat := refG ws B (B.length + 1) 0
/-- A reader of the document. -/
def RfOk (w : World) (g : Nat) (L : List Bool) (p : Nat) : Prop := ∃ a n c, Blk w g 67 #[.slice a n c, .int .i64 (p : Int)] ∧ Rd w Value.bool a L ∧ L.length = n ∧ (n ≤ 8000000 ∧ Bnd L a g ∧ n ≤ c ∧ c ≤ 9223372036854775807) ∧ p ≤ n
theorem strList (s : ByteArray) : s = strOf s.data.toList := by apply ByteArray.ext; simp [strOf]
theorem sB_toList (l : List Bool) : (sB l).toList = l.map chB := by
  have : sB l = strOf (l.map chB) := rfl
  rw [this, strOf_toList]
theorem sB_eq {a b : List Bool} : ((sB a).toList == (sB b).toList) = decide (a = b) := by
  rw [sB_toList, sB_toList]
  by_cases h : a = b
  · subst h; simp
  · rw [decide_eq_false h]
    refine beq_eq_false_iff_ne.2 fun e => h (sB_inj ?_)
    unfold sB; rw [e]
theorem sB_nil {a : List Bool} : ((sB a).toList == []) = decide (a = []) := by
  rw [sB_toList]
  cases a <;> rfl
theorem rd_bool_set {w : World} {b : Option Addr} {L : List Bool} {g n d : Nat} {a : Option Addr} {x : Int} (h : Rd w Value.bool b L) (hb : Blk w g 67 #[.slice a n d, .int .i64 x]) (v : Value) : Rd (w.setCell ⟨g, 1, none⟩ v) Value.bool b L := by
  rcases h with rfl | ⟨q, off, rfl, h⟩
  · exact .inl rfl
  · refine .inr ⟨q, off, rfl, fun j y hj => ?_⟩
    have hc := h j y hj
    refine ((grownBy_setCell w ⟨g, 1, none⟩ v).cell hc ?_)
    intro e
    simp only [Option.some.injEq] at e
    subst e
    rw [cell_of_row w q (off + j) _ _ (0, 0) hb] at hc
    match h9 : off + j, hc with
    | 0, hc => simp at hc
    | 1, hc => simp at hc
    | k+2, hc => simp at hc
structure RGetPost (w : World) (gq : Nat) (ws : List (List Bool)) (L : List Bool) (p : Nat) (e : Ending) (w' : World) : Prop where
  ret : e = .returned (.tuple #[.int .i64 (refS ws (L.drop p)).1, .int .i64 (refS ws (L.drop p)).2.1])
  rd : RfOk w' gq L (p + (refS ws (L.drop p)).2.2)
  grown : w.grownBy w' (some gq)
set_option maxRecDepth 100000 in
set_option maxHeartbeats 8000000 in
theorem rGet_any (a : Option Addr) (n c gq : Nat) (ws : List (List Bool)) (L : List Bool) (p : Nat) (w : World) (hl : ws.length = n) (hn : n ≤ 60000) (hw : Rd w (fun x => Value.string (sB x)) a ws) (hs : ∀ x ∈ ws, x.length ≤ 15) (hR : RfOk w gq L p) :
  Calls Try.prog 95 #[.slice a n c, .pointer (some ⟨gq, 0, none⟩)] w (RGetPost w gq ws L p) := by
  obtain ⟨b, nl, d, hb, hr, hL, hnl, hp⟩ := hR
  have c0 := hb.cell (i := 0) rfl
  have c1 := hb.cell (i := 1) rfl
  have f1 := hb.frozen 1
  have HW := Lib.hid (And.intro hl (And.intro hw hs))
  have HR := Lib.hid (And.intro hb hr)
  have HL := Lib.hid hL
  have HP := Lib.hid hp
  have hBl : (L.drop p).length = nl - p := by rw [List.length_drop, hL]
  have HBL := Lib.hid hBl
  clear hl hw hs hb hr hL hBl
  go_enter Try.func95, Try.ntmps95
  go_wp2
  go_loop [6, 7] (fun x6 x7 => ∃ (m : Nat) (s : ByteArray), p + m ≤ nl ∧ x6 = .string s ∧ x7 = .int .i64 ((p : Int) + (m : Int)) ∧ Hid (s = sB ((L.drop p).take m) ∧ refS ws (L.drop p) = refG ws (L.drop p) (nl - p + 1 - m) m)) (fun _ x7 => nl + 1 - (intOf x7).toNat)
  case atStart => exact ⟨0, ⟨#[]⟩, by have := HP.out; omega, rfl, by simp, Lib.hid ⟨rfl, by unfold refS; rw [HBL.out]; rfl⟩⟩
  case round =>
    obtain ⟨m, s, hm, rfl, rfl, hst⟩ := hrel
    have hssz : s.size = m := by rw [hst.out.1, sB_size, List.length_take, HBL.out]; omega
    go_wp2
    go_loop [8, 19] (fun x8 x19 => ∃ i : Nat, i ≤ n ∧ x8 = .bool ((ws.take i).any (moreW ((L.drop p).take m))) ∧ x19 = .int .i64 i ∧ Hid (∀ x ∈ ws.take i, isW ((L.drop p).take m) x = false)) (fun _ x19 => n - (intOf x19).toNat)
    case atStart => exact ⟨0, Nat.zero_le _, rfl, rfl, Lib.hid (fun x hx => by simp at hx)⟩
    case round =>
      obtain ⟨i, hi, rfl, rfl, hno⟩ := hrel
      by_cases hin : i < n
      · have hil : i < ws.length := by rw [HW.out.1]; exact hin
        obtain ⟨b1, o1, rfl, -, hc⟩ := HW.out.2.1.at hil
        have hxs : (sB ws[i]).size = ws[i].length := sB_size _
        have hx15 := HW.out.2.2 ws[i] (List.getElem_mem hil)
        have HSN : Hid ((ws.take (i + 1)).any (moreW ((L.drop p).take m)) = ((ws.take i).any (moreW ((L.drop p).take m)) || moreW ((L.drop p).take m) ws[i])) := Lib.hid (by
          rw [List.take_succ_eq_append_getElem hil, List.any_append]; simp)
        have HNO : Hid (isW ((L.drop p).take m) ws[i] = false → ∀ x ∈ ws.take (i + 1), isW ((L.drop p).take m) x = false) := Lib.hid (fun hf x hx => by
          rw [List.take_succ_eq_append_getElem hil] at hx
          rcases List.mem_append.1 hx with hx | hx
          · exact hno.out x hx
          · rw [List.mem_singleton.1 hx]; exact hf)
        have HFI : Hid (isW ((L.drop p).take m) ws[i] = true → ws.findIdx? (isW ((L.drop p).take m)) = some i) := Lib.hid (fun ht => by
          rw [List.findIdx?_eq_some_iff_getElem]
          refine ⟨hil, ht, fun j hj => ?_⟩
          have := hno.out ws[j] (by rw [List.mem_take_iff_getElem]; exact ⟨j, by omega, rfl⟩)
          rw [this]; decide)
        generalize ws[i] = x at *
        have htl : ((L.drop p).take m).length = m := by rw [← sB_size, ← hst.out.1, hssz]
        have e1 : ((sB x).toList == []) = decide (x = []) := sB_nil
        have e2 : ((sB x).toList == s.toList) = decide (x = (L.drop p).take m) := by rw [hst.out.1]; exact sB_eq
        have e3 : (((sB x).extract 0 m).toList == s.toList) = decide (x.take m = (L.drop p).take m) := by rw [hst.out.1, sB_extract]; exact sB_eq
        have HIW : Hid (isW ((L.drop p).take m) x = (decide (x ≠ []) && decide (x = (L.drop p).take m))) := Lib.hid rfl
        have HMW : Hid (moreW ((L.drop p).take m) x = (decide (m < x.length) && decide (x.take m = (L.drop p).take m))) := Lib.hid (by unfold moreW; rw [htl])
        clear htl
        generalize (ws.take i).any (moreW ((L.drop p).take m)) = sm at *
        have hst2 : Hid ((L.drop p).take m = (L.drop p).take m) := Lib.hid rfl
        generalize hS : (L.drop p).take m = S at *
        have hst2 := Lib.hid hS
        clear hS
        replace hc : w.cell? ⟨b1, o1 + i, none⟩ = some (.string (sB x)) := hc
        have hxl : x.length ≤ 15 := hx15
        generalize sB x = y at *
        by_cases hm2 : x ≠ [] ∧ x = S
        · have HF := Lib.hid (HFI.out (by rw [HIW.out, decide_eq_true hm2.1, decide_eq_true hm2.2]; rfl))
          rw [decide_eq_false hm2.1] at e1
          rw [decide_eq_true hm2.2] at e2
          have hSm : Hid (refS ws (L.drop p) = ((i : Int), 0, m)) := Lib.hid (by
            rw [hst.out.2, show nl - p + 1 - m = (nl - p - m) + 1 by have := HP.out; omega]
            conv => lhs; unfold refG
            rw [hst2.out, HF.out])
          clear hm2 e3 HSN HNO HFI HIW HMW HF
          have HB1 := Lib.hid (HR.out.1.setCell 1 (.int .i64 ((p : Int) + (m : Int))))
          have HG1 := Lib.hid (grownBy_setCell w ⟨gq, 1, none⟩ (.int .i64 ((p : Int) + (m : Int))))
          have HRB : Hid (Rd (w.setCell ⟨gq, 1, none⟩ (.int .i64 ((p : Int) + (m : Int)))) Value.bool b L) := Lib.hid (rd_bool_set HR.out.2 HR.out.1 _)
          go_wp2
          go_ret2
          exact ⟨by rw [hSm.out]; rfl, by rw [hSm.out]; exact ⟨b, nl, d, HB1.out, HRB.out, HL.out, hnl, hm⟩, HG1.out⟩
        · have hIW : isW S x = false := by
            rw [HIW.out]
            by_cases h1 : x = []
            · simp [h1]
            · have : ¬ x = S := fun h => hm2 ⟨h1, h⟩
              rw [decide_eq_false this, Bool.and_false]
          have HN := Lib.hid (HNO.out hIW)
          clear hIW HNO HFI HIW
          have hgo : ∀ smn : Bool, Hid ((sm || moreW S x) = smn) → smn = smn := fun _ _ => rfl
          clear hgo
          cases sm with
          | true =>
            have HS2 : Hid ((ws.take (i + 1)).any (moreW S) = true) := Lib.hid (by rw [HSN.out]; rfl)
            clear e3 HSN HMW
            by_cases h1 : x = []
            · rw [decide_eq_true h1] at e1
              clear e2 hm2 h1
              go_wp2
              go_round
              case rel => exact ⟨i + 1, by omega, by rw [HS2.out], by go_num, HN.out |> Lib.hid⟩
              case measure => simp [intOf] <;> omega
            · have h2 : ¬ x = S := fun h => hm2 ⟨h1, h⟩
              rw [decide_eq_false h1] at e1
              rw [decide_eq_false h2] at e2
              clear hm2 h1 h2
              go_wp2
              go_round
              case rel => exact ⟨i + 1, by omega, by rw [HS2.out], by go_num, HN.out |> Lib.hid⟩
              case measure => simp [intOf] <;> omega
          | false =>
            have HS2 : Hid ((ws.take (i + 1)).any (moreW S) = (decide (m < x.length) && decide (x.take m = S))) := Lib.hid (by rw [HSN.out, HMW.out]; rfl)
            clear HSN HMW
            by_cases hlen : m < x.length
            · have h1 : ¬ x = [] := by intro h; rw [h] at hlen; simp at hlen
              have h2 : ¬ x = S := fun h => hm2 ⟨h1, h⟩
              rw [decide_eq_false h1] at e1
              rw [decide_eq_false h2] at e2
              rw [decide_eq_true hlen, Bool.true_and] at HS2
              generalize decide (x.take m = S) = b3 at *
              clear hm2 h1 h2
              go_wp2
              go_round
              case rel => exact ⟨i + 1, by omega, by rw [HS2.out], by go_num, HN.out |> Lib.hid⟩
              case measure => simp [intOf] <;> omega
            · rw [decide_eq_false hlen, Bool.false_and] at HS2
              clear e3
              by_cases h1 : x = []
              · rw [decide_eq_true h1] at e1
                clear e2 hm2 h1
                go_wp2
                go_round
                case rel => exact ⟨i + 1, by omega, by rw [HS2.out], by go_num, HN.out |> Lib.hid⟩
                case measure => simp [intOf] <;> omega
              · have h2 : ¬ x = S := fun h => hm2 ⟨h1, h⟩
                rw [decide_eq_false h1] at e1
                rw [decide_eq_false h2] at e2
                clear hm2 h1 h2
                go_wp2
                go_round
                case rel => exact ⟨i + 1, by omega, by rw [HS2.out], by go_num, HN.out |> Lib.hid⟩
                case measure => simp [intOf] <;> omega
      · have hin' : i = n := by omega
        have htk : ws.take i = ws := List.take_of_length_le (by rw [HW.out.1]; omega)
        rw [htk] at hno ⊢
        have hfn : ws.findIdx? (isW ((L.drop p).take m)) = none := List.findIdx?_eq_none_iff.2 hno.out
        have HS : Hid (refS ws (L.drop p) = if ws.any (moreW ((L.drop p).take m)) then (match (L.drop p)[m]? with | none => (0, 6, 0) | some _ => refG ws (L.drop p) (nl - p - m) (m + 1)) else (0, 12, 0)) := Lib.hid (by
          rw [hst.out.2, show nl - p + 1 - m = (nl - p - m) + 1 by have := HP.out; omega]
          conv => lhs; unfold refG
          rw [hfn])
        clear hno htk hfn hssz
        subst hin'
        cases hany : ws.any (moreW ((L.drop p).take m)) with
        | false =>
          rw [hany] at HS
          have HE : Hid (refS ws (L.drop p) = (0, 12, 0)) := Lib.hid (by rw [HS.out]; rfl)
          clear HS hany
          go_wp2
          go_ret2
          exact ⟨by rw [HE.out]; rfl, by rw [HE.out]; exact ⟨b, nl, d, HR.out.1, HR.out.2, HL.out, hnl, HP.out⟩, World.grownBy.refl _ _⟩
        | true =>
          rw [hany] at HS
          clear hany
          by_cases hend : p + m = nl
          · have HE : Hid (refS ws (L.drop p) = (0, 6, 0)) := Lib.hid (by
              rw [HS.out, if_pos rfl, List.getElem?_eq_none (by rw [HBL.out]; omega)])
            have g1 : ((p : Int) + (m : Int) == (nl : Int)) = true := by simp; omega
            clear HS
            go_wp2
            go_ret2
            exact ⟨by rw [HE.out]; rfl, by rw [HE.out]; exact ⟨b, nl, d, HR.out.1, HR.out.2, HL.out, hnl, HP.out⟩, World.grownBy.refl _ _⟩
          · have hpm : p + m < L.length := by rw [HL.out]; omega
            have hgt : (L.drop p)[m]? = some L[p + m] := by rw [List.getElem?_drop, List.getElem?_eq_getElem hpm]
            have hml : m < (L.drop p).length := by rw [HBL.out]; omega
            have hgm : (L.drop p)[m] = L[p + m] := by rw [List.getElem?_eq_getElem hml] at hgt; exact Option.some.inj hgt
            obtain ⟨b1, o1, rfl, -, hc⟩ := HR.out.2.at hpm
            have g1 : ((p : Int) + (m : Int) == (nl : Int)) = false := by simp; omega
            have HE : Hid (refS ws (L.drop p) = refG ws (L.drop p) (nl - p + 1 - (m + 1)) (m + 1)) := Lib.hid (by
              rw [HS.out, if_pos rfl, hgt, show nl - p + 1 - (m + 1) = nl - p - m by omega])
            have hssz : s.size = m := by rw [hst.out.1, sB_size, List.length_take, HBL.out]; omega
            have HS1 : Hid (s ++ sB [L[p + m]] = sB ((L.drop p).take (m + 1))) := Lib.hid (by
              rw [hst.out.1, sB_append, List.take_succ_eq_append_getElem hml, hgm])
            replace hc : w.cell? ⟨b1, o1 + (p + m), none⟩ = some (.bool L[p + m]) := hc
            have hidx : ((p : Int) + (m : Int)).toNat = p + m := by omega
            clear HS hgt hgm
            cases hbit : L[p + m] with
            | false =>
              rw [hbit] at hc HS1
              replace HS1 : Hid (s ++ ⟨#[48]⟩ = sB ((L.drop p).take (m + 1))) := HS1
              clear hbit
              go_wp2
              go_round
              case rel => exact ⟨m + 1, _, by omega, rfl, by congr 1, Lib.hid ⟨HS1.out, HE.out⟩⟩
              case measure => simp [intOf] <;> omega
            | true =>
              rw [hbit] at hc HS1
              replace HS1 : Hid (s ++ ⟨#[49]⟩ = sB ((L.drop p).take (m + 1))) := HS1
              clear hbit
              go_wp2
              go_round
              case rel => exact ⟨m + 1, _, by omega, rfl, by congr 1, Lib.hid ⟨HS1.out, HE.out⟩⟩
              case measure => simp [intOf] <;> omega
end Go.Proofs.Ytgcdeadfkljeaaa
