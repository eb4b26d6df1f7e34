/- The walk of PrefixReads. -/
import Derived.Test.YtnmdgmjheopolaaPreP
import Derived.Test.YtnmdgmjheopolaaGrowM
namespace Go.Proofs.Ytnmdgmjheopolaa
open Go.RowKit
set_option linter.unusedVariables false
set_option linter.unusedSimpArgs false

theorem blk_nobitP {w : World} {g : Nat} {T : TypeId} {a : Option Addr} {n c : Nat} {x : Int} (h : Blk w g T #[.slice a n c, .int .i64 x]) : ∀ off (z : Bool), w.cell? ⟨g, off, none⟩ ≠ some (.bool z) := by
  intro off z he
  rw [cell_of_row w g off _ T (0, 0) h] at he
  match off, he with
  | 0, he => simp at he
  | 1, he => simp at he
  | off+2, he => simp at he
theorem rd_bools_keep {w w' : World} {g : Nat} {a : Option Addr} {l : List Bool} (h : Rd w Value.bool a l) (hg : w.grownBy w' (some g)) (hno : ∀ off (x : Bool), w.cell? ⟨g, off, none⟩ ≠ some (.bool x)) : Rd w' Value.bool a l := by
  rcases h with rfl | ⟨b, off, rfl, h⟩
  · exact .inl rfl
  · refine .inr ⟨b, off, rfl, fun j x hj => ?_⟩
    have hc := h j x hj
    by_cases hb : b = g
    · subst hb; exact absurd hc (hno _ _)
    · exact hg.cell hc (by simpa using hb)
theorem two_types {w : World} {g h : Nat} {T U : TypeId} {cs ds : Array Value} (h1 : Blk w g T cs) (h2 : Blk w h U ds) (hne : T ≠ U) : g ≠ h := by
  rintro rfl
  unfold Blk at h1 h2
  rw [h1] at h2
  simp only [Option.some.injEq, Obj.cells.injEq] at h2
  exact hne h2.2.1
/-- What lies there while bits are read by both. -/
structure PR (w0 : World) (l : List Int) (L : List UInt8) (gc gr gq : Nat) (q : Option Addr) (n : Nat) (p p' : Nat) (w : World) : Prop where
  rd : RdOk w gr L p
  rf : RfOk w gq (ofL L) p'
  code : CodeOk w gc l
  ws : Own w 0 9 Value.string q n n ((rwsL l).map sB)
  below : Below w0.heap.size w0 w
  hr : w0.heap.size ≤ gr
  hq : w0.heap.size ≤ gq
section
variable {w0 w w' : World} {l : List Int} {L : List UInt8} {gc gr gq : Nat} {q : Option Addr} {n p p' k : Nat}
theorem PR.ours (h : PR w0 l L gc gr gq q n p p' w) (hrd : RdOk w' gr L k) (hc : CodeOk w' gc l) (hg : w.grownBy w' (some gr)) : PR w0 l L gc gr gq q n k p' w' := by
  obtain ⟨a1, n1, c1, hb1, -⟩ := h.rd.ex
  obtain ⟨a2, n2, c2, hb2, h3, h4, h5, h6⟩ := h.rf
  have hne := two_types hb1 hb2 (by decide)
  refine ⟨hrd, ⟨a2, n2, c2, hb2.grown hg (fun e => hne (by simpa using e.symm)), rd_bools_keep h3 hg (blk_nobitP hb1), h4, h5, h6⟩, hc, own_byType h.ws hb1 (by decide) hg, h.below.grown hg h.below.size (fun j hj => by simp only [Option.some.injEq] at hj; have := h.hr; omega), h.hr, h.hq⟩
theorem blk_nobyteP {w : World} {g : Nat} {T : TypeId} {a : Option Addr} {n c : Nat} {x : Int} (h : Blk w g T #[.slice a n c, .int .i64 x]) : ∀ off (z : UInt8), w.cell? ⟨g, off, none⟩ ≠ some (bE z) := blk_nobyte2 h
theorem PR.theirs (h : PR w0 l L gc gr gq q n p p' w) (hrf : RfOk w' gq (ofL L) k) (hg : w.grownBy w' (some gq)) : PR w0 l L gc gr gq q n p k w' := by
  obtain ⟨a1, n1, c1, hb1, -⟩ := h.rd.ex
  obtain ⟨a2, n2, c2, hb2, h3, h4, h5, h6⟩ := h.rf
  have hne := two_types hb1 hb2 (by decide)
  refine ⟨h.rd.keep (keep_of_grown hg (blk_nobyteP hb2)) hg hne, hrf, h.code.byType hb2 (by decide) (by decide) (by decide) hg, own_byType h.ws hb2 (by decide) hg, h.below.grown hg h.below.size (fun j hj => by simp only [Option.some.injEq] at hj; have := h.hq; omega), h.hr, h.hq⟩
theorem RfOk.below {B : List Bool} (h : RfOk w gq B p) (hb : Below w.heap.size w w') : RfOk w' gq B p := by
  obtain ⟨a2, n2, c2, hb2, h3, h4, h5, h6⟩ := h
  exact ⟨a2, n2, c2, hb2.below hb, h3.below hb, h4, h5, h6⟩
theorem PR.on (h : PR w0 l L gc gr gq q n p p' w) (hb : Below w.heap.size w w') : PR w0 l L gc gr gq q n p p' w' :=
  ⟨h.rd.below hb, h.rf.below hb, h.code.below hb, h.ws.below hb, h.below.trans (hb.mono h.below.size), h.hr, h.hq⟩
theorem rd_map {α β : Type} {w : World} {E : β → Value} {f : α → β} {a : Option Addr} {l : List α} (h : Rd w E a (l.map f)) : Rd w (fun x => E (f x)) a l := by
  rcases h with h | ⟨b, off, h1, h⟩
  · exact .inl (by simpa using h)
  · exact .inr ⟨b, off, h1, fun j x hj => h j (f x) (by rw [List.getElem?_map, hj]; rfl)⟩
end
theorem rwsL_short {l : List Int} (hk : kindS l ≠ 0) : ∀ x ∈ rwsL l, x.length ≤ 15 := by
  intro x hx
  obtain ⟨i, hi, rfl⟩ := List.mem_iff_getElem.1 hx
  rw [rwsL_get, rwv_len]
  rw [rwsL_length] at hi
  have := kindS_valid hk (l.getD i 0) (by rw [List.getD_eq_getElem?_getD, List.getElem?_eq_getElem hi]; exact List.getElem_mem _)
  omega
set_option maxRecDepth 100000 in
set_option maxHeartbeats 8000000 in
theorem walkPrefixReads (a : Option Addr) (n c : Nat) (l : List Int) (b : Option Addr) (m d : Nat) (L : List UInt8) (w : World) (hl : l.length = n) (hn : n ≤ maxLen) (hr : Rd w nE a l) (hx : ∀ x ∈ l, -9223372036854775808 ≤ x ∧ x ≤ 9223372036854775807) (hL : L.length = m) (hm : m ≤ maxLen) (hR : Rd w bE b L) :
  Calls Try.prog 5 #[.slice a n c, .slice b m d] w fun e w' => e = .returned (.bool true) ∧ Below w.heap.size w w' := by
  have HR := Lib.hid (And.intro hl hr)
  have HRB := Lib.hid (And.intro hL hR)
  unfold maxLen at hn hm
  clear hl hr hx hL hR
  go_enter Try.func5, Try.ntmps5
  go_wp2_with fail
  refine (fixed05_any w).mono ?_
  rintro e w1 ⟨rfl, hb1⟩
  have HB := Lib.hid hb1
  clear hb1
  by_cases h40 : n ≤ 40
  case neg =>
    have g : (40 : Int) < (n : Int) := by omega
    go_wp2
    go_ret
    exact ⟨rfl, HB.out⟩
  have g : ¬ (40 : Int) < (n : Int) := by omega
  by_cases h41 : m ≤ 40
  case neg =>
    have g' : (40 : Int) < (m : Int) := by omega
    go_wp2
    go_ret
    exact ⟨rfl, HB.out⟩
  have g' : ¬ (40 : Int) < (m : Int) := by omega
  go_wp2_with fail
  refine (rwords_any a n c l w1 HR.out.1 (by omega) (HR.out.2.below HB.out)).mono ?_
  rintro e w2 ⟨hb2, h2⟩
  have HB2 := Lib.hid (HB.out.trans (hb2.mono HB.out.size))
  clear hb2
  rcases h2 with ⟨hk, rfl⟩ | ⟨hk, q, rfl, ho2⟩
  · have HK := Lib.hid hk
    clear hk
    go_wp2_with fail
    refine (new_any a n c l w2 HR.out.1 (by omega) (HR.out.2.below HB2.out)).mono ?_
    rintro e w3 ⟨hb3, h3⟩
    rcases h3 with ⟨-, rfl⟩ | ⟨h3, _⟩
    case inr => exact absurd HK.out h3
    have HB3 := Lib.hid (HB2.out.trans (hb3.mono HB2.out.size))
    clear hb3
    go_wp2_with fail
    refine (rdNew_any b m d L w3 HRB.out.1 (by omega) (HRB.out.2.below HB3.out)).mono ?_
    rintro e w4 ⟨g4, rfl, -, -, hb4⟩
    have HB4 := Lib.hid (HB3.out.trans (hb4.mono HB3.out.size))
    clear hb4
    go_wp2_with fail
    refine (cGet_nil (some ⟨g4, 0, none⟩) w4).mono ?_
    rintro e w5 ⟨rfl, rfl⟩
    go_wp2_with fail
    refine (signs_nil w5).mono ?_
    rintro e w6 ⟨rfl, rfl⟩
    go_wp2_with fail
    refine (wNew_any w6).mono ?_
    rintro e w7 ⟨g7, rfl, -, hb7⟩
    have HB7 := Lib.hid (HB4.out.trans (hb7.mono HB4.out.size))
    clear hb7
    go_wp2_with fail
    refine (cPut_nil (some ⟨g7, 0, none⟩) 0 w7).mono ?_
    rintro e w8 ⟨rfl, rfl⟩
    go_wp2
    go_ret
    exact ⟨rfl, HB7.out⟩
  · have HK := Lib.hid hk
    have HO2 := Lib.hid (ho2.mono (b' := 0) (Nat.zero_le _))
    clear hk ho2
    go_wp2_with fail
    refine (new_any a n c l w2 HR.out.1 (by omega) (HR.out.2.below HB2.out)).mono ?_
    rintro e w3 ⟨hb3, h3⟩
    rcases h3 with ⟨h3, _⟩ | ⟨-, gc, -, rfl, hcode⟩
    · exact absurd h3 HK.out
    have HB3 := Lib.hid (HB2.out.trans (hb3.mono HB2.out.size))
    have HO3 := Lib.hid (And.intro (HO2.out.below hb3) hcode)
    clear hb3 hcode HO2
    go_wp2_with fail
    refine (rdNew_any b m d L w3 HRB.out.1 (by omega) (HRB.out.2.below HB3.out)).mono ?_
    rintro e w4 ⟨gr, rfl, hgr, hrd4, hb4⟩
    have HB4 := Lib.hid (HB3.out.trans (hb4.mono HB3.out.size))
    have HO4 := Lib.hid (And.intro (HO3.out.1.below hb4) (And.intro (HO3.out.2.below hb4) (And.intro hrd4 (Nat.le_trans HB3.out.size hgr))))
    clear hb4 HO3 hrd4 hgr
    go_wp2_with fail
    refine (of_any b m d L w4 HRB.out.1 (by omega) (HRB.out.2.below HB4.out)).mono ?_
    rintro e w5 ⟨a5, c5, rfl, ho5, hb5⟩
    have HB5 := Lib.hid (HB4.out.trans (hb5.mono HB4.out.size))
    have hal := below_alloc w5 (.cells #[.slice a5 (8 * m) c5, .int .i64 0] 60)
    have HPR : Hid (PR w l L gc gr w5.heap.size q n 0 0 (w5.alloc (.cells #[.slice a5 (8 * m) c5, .int .i64 0] 60))) := Lib.hid
      ⟨(HO4.out.2.2.1.below hb5).below hal, ⟨a5, 8 * m, c5, Blk.new _ _ _, ho5.rd.below hal, by rw [ofL_length, HRB.out.1], by omega, Nat.zero_le _⟩, (HO4.out.2.1.below hb5).below hal, (HO4.out.1.below hb5).below hal, HB5.out.alloc HB5.out.size _, HO4.out.2.2.2, HB5.out.size⟩
    clear hb5 ho5 HO4 hal
    go_wp2
    generalize w5.alloc (.cells #[.slice a5 (8 * m) c5, .int .i64 0] 60) = W at HPR ⊢
    obtain ⟨gq, hgq⟩ : ∃ gq, gq = w5.heap.size := ⟨_, rfl⟩
    rw [← hgq] at HPR ⊢
    clear hgq HB3 HB4 HB5
    go_loopw [73] (fun x73 wr => ∃ i p : Nat, i ≤ 8 * m + 1 ∧ x73 = .int .i64 i ∧ PR w l L gc gr gq q n p p wr) (fun x73 _ => 8 * m + 1 - (intOf x73).toNat)
    case atStart => exact ⟨0, 0, Nat.zero_le _, rfl, HPR.out⟩
    case round =>
      clear HPR
      obtain ⟨i, p, hi, rfl, hPR⟩ := hrel
      by_cases hin : i < 8 * m + 1
      · have HP := Lib.hid hPR
        clear hPR
        go_wp2_with fail
        refine (cGet_any gc gr l L p wr HP.out.code HP.out.rd).mono ?_
        rintro e w6 ⟨hret, hrd6, hc6, hg6⟩
        subst hret
        have HP6 := Lib.hid (HP.out.ours hrd6 hc6 hg6)
        clear hrd6 hc6 hg6 HP
        go_wp2_with fail
        refine (rGet_any q n n gq (rwsL l) (ofL L) p w6 (by rw [rwsL_length, HR.out.1]) (by omega) (rd_map HP6.out.ws.rd) (rwsL_short HK.out) HP6.out.rf).mono ?_
        rintro e w7 ⟨hret, hrf7, hg7⟩
        rw [ref_get HK.out] at hret hrf7
        subst hret
        obtain ⟨t, ht⟩ : ∃ t, t = getS l ((ofL L).drop p) := ⟨_, rfl⟩
        rw [← ht] at HP6 hrf7 ⊢
        have HP7 := Lib.hid (HP6.out.theirs hrf7 hg7)
        clear ht hrf7 hg7 HP6
        obtain ⟨v, er, k⟩ := t
        obtain ⟨p2, hp2⟩ : ∃ p2, p2 = p + k := ⟨_, rfl⟩
        replace HP7 : Hid (PR w l L gc gr gq q n p2 p2 w7) := by rw [hp2]; exact HP7
        clear hp2
        obtain ⟨qa, qn, qc, hqb, hqr, hqL, hqn, hqp⟩ := HP7.out.rf
        have K0 : Hid (w7.cell? ⟨gq, 0, none⟩ = some (.slice qa qn qc)) := Lib.hid (hqb.cell (i := 0) rfl)
        have K1 : Hid (w7.cell? ⟨gq, 1, none⟩ = some (.int .i64 (p2 : Int))) := Lib.hid (hqb.cell (i := 1) rfl)
        have HRD := Lib.hid HP7.out.rd
        have HQN : Hid (8 * (L.length : Int) = (qn : Int)) := Lib.hid (by rw [ofL_length] at hqL; omega)
        have hsub : IntKind.i64.wrap ((qn : Int) - (p2 : Int)) = (qn : Int) - (p2 : Int) := by rw [IntKind.wrap_i64]; omega
        have hsub2 : ((qn : Int) - (p2 : Int) != (qn : Int) - (p2 : Int)) = false := by simp
        clear hqb hqr hqL
        go_wp2_with fail
        refine wp_region_grow (by kernel_rfl) (by kernel_rfl) (by rfl) ?_
        apply gw_val
        · intro a' w' hk
          refine ⟨wanted_none rfl, ?_⟩
          simp [Oper.looksAt, Op.operands, Call.operands, KnownAt, List.lookup, consD] at hk
          simp [execOp, Act.eval, hk, go_sem]
          all_goals rfl
        apply gw_val
        · intro a' w' hk
          refine ⟨wanted_none rfl, ?_⟩
          simp [Oper.looksAt, Op.operands, Call.operands, KnownAt, List.lookup, consD] at hk
          simp [execOp, Act.eval, hk, go_sem]
          all_goals rfl
        apply gw_val
        · intro a' w' hk
          refine ⟨wanted_none rfl, ?_⟩
          simp [Oper.looksAt, Op.operands, Call.operands, KnownAt, List.lookup, consD] at hk
          simp [execOp, Act.eval, hk, go_sem]
          all_goals rfl
        apply gw_val
        · intro a' w' hk
          refine ⟨wanted_none rfl, ?_⟩
          simp [Oper.looksAt, Op.operands, Call.operands, KnownAt, List.lookup, consD] at hk
          simp [execOp, Act.eval, hk, go_sem]
          all_goals rfl
        apply gw_val
        · intro a' w' hk
          refine ⟨wanted_guard (t := 90) rfl rfl (by simpa [KnownAt, List.lookup, consD] using hk 90 (by decide)), ?_⟩
          simp [Oper.looksAt, Op.operands, Call.operands, KnownAt, List.lookup, consD] at hk
          simp [execOp, Act.eval, hk, go_sem]
          all_goals rfl
        apply gw_val
        · intro a' w' hk
          refine ⟨wanted_guard (t := 90) rfl rfl (by simpa [KnownAt, List.lookup, consD] using hk 90 (by decide)), ?_⟩
          simp [Oper.looksAt, Op.operands, Call.operands, KnownAt, List.lookup, consD] at hk
          simp [execOp, Act.eval, hk, go_sem]
          all_goals rfl
        apply gw_val
        · intro a' w' hk
          refine ⟨wanted_guard (t := 90) rfl rfl (by simpa [KnownAt, List.lookup, consD] using hk 90 (by decide)), ?_⟩
          simp [Oper.looksAt, Op.operands, Call.operands, KnownAt, List.lookup, consD] at hk
          simp [execOp, Act.eval, hk, go_sem]
          all_goals rfl
        apply gw_val
        · intro a' w' hk
          refine ⟨wanted_none rfl, ?_⟩
          simp [Oper.looksAt, Op.operands, Call.operands, KnownAt, List.lookup, consD] at hk
          simp [execOp, Act.eval, hk, go_sem]
          all_goals rfl
        apply gw_val
        · intro a' w' hk
          refine ⟨wanted_none rfl, ?_⟩
          simp [Oper.looksAt, Op.operands, Call.operands, KnownAt, List.lookup, consD] at hk
          simp [execOp, Act.eval, hk, go_sem]
          all_goals rfl
        apply gw_val
        · intro a' w' hk
          refine ⟨wanted_guard (t := 95) rfl rfl (by simpa [KnownAt, List.lookup, consD] using hk 95 (by decide)), ?_⟩
          simp [Oper.looksAt, Op.operands, Call.operands, KnownAt, List.lookup, consD] at hk
          simp [execOp, Act.eval, hk, go_sem]
          all_goals rfl
        refine gw_call _ #[.pointer (some ⟨gr, 0, none⟩)] (fun x _ => x = .int .i64 ((qn : Int) - (p2 : Int))) (mono_eq _) (fun a' w' hk => ?_) (fun w' hb => (rdLeft_any gr L p2 w' (HRD.out.below (((Below.refl _ _).drew).trans hb))).mono ?_) ?_
        · refine ⟨wanted_guard (t := 95) rfl rfl (by simpa [KnownAt, List.lookup, consD] using hk 95 (by decide)), ?_⟩
          simp [Oper.looksAt, Op.operands, Call.operands, KnownAt, List.lookup, consD] at hk
          simp [execOp, Act.eval, hk, go_sem]
          all_goals rfl
        · rw [HQN.out]
          rintro e w'' ⟨rfl, kd, rfl⟩
          exact ⟨_, rfl, rfl, below_drewN _ _ kd⟩
        apply gw_val
        · intro a' w' hk
          refine ⟨wanted_guard (t := 95) rfl rfl (by simpa [KnownAt, List.lookup, consD] using hk 95 (by decide)), ?_⟩
          simp [Oper.looksAt, Op.operands, Call.operands, KnownAt, List.lookup, consD] at hk
          simp [execOp, Act.eval, hk, go_sem]
          all_goals rfl
        apply gw_val
        · intro a' w' hk
          refine ⟨wanted_guard (t := 95) rfl rfl (by simpa [KnownAt, List.lookup, consD] using hk 95 (by decide)), ?_⟩
          simp [Oper.looksAt, Op.operands, Call.operands, KnownAt, List.lookup, consD] at hk
          simp [execOp, Act.eval, hk, go_sem]
          all_goals rfl
        apply gw_val
        · intro a' w' hk
          refine ⟨wanted_guard (t := 95) rfl rfl (by simpa [KnownAt, List.lookup, consD] using hk 95 (by decide)), ?_⟩
          simp [Oper.looksAt, Op.operands, Call.operands, KnownAt, List.lookup, consD] at hk
          simp [execOp, Act.eval, hk, go_sem]
          all_goals rfl
        refine gw_valB (fun y _ => y = .slice qa qn qc) (mono_eq _) ?_ ?_
        · intro a' w' hb' hk
          refine ⟨wanted_guard (t := 95) rfl rfl (by simpa [KnownAt, List.lookup, consD] using hk 95 (by decide)), _, ?_, rfl⟩
          have hcc := cell_later5 K0.out hb'
          simp [Oper.looksAt, Op.operands, Call.operands, KnownAt, List.lookup, consD] at hk
          simp [execOp, Act.eval, hk, hcc, go_sem]
          all_goals rfl
        apply gw_val
        · intro a' w' hk
          refine ⟨wanted_guard (t := 95) rfl rfl (by simpa [KnownAt, List.lookup, consD] using hk 95 (by decide)), ?_⟩
          simp [Oper.looksAt, Op.operands, Call.operands, KnownAt, List.lookup, consD] at hk
          simp [execOp, Act.eval, hk, go_sem]
          all_goals rfl
        apply gw_val
        · intro a' w' hk
          refine ⟨wanted_guard (t := 95) rfl rfl (by simpa [KnownAt, List.lookup, consD] using hk 95 (by decide)), ?_⟩
          simp [Oper.looksAt, Op.operands, Call.operands, KnownAt, List.lookup, consD] at hk
          simp [execOp, Act.eval, hk, go_sem]
          all_goals rfl
        apply gw_val
        · intro a' w' hk
          refine ⟨wanted_guard (t := 95) rfl rfl (by simpa [KnownAt, List.lookup, consD] using hk 95 (by decide)), ?_⟩
          simp [Oper.looksAt, Op.operands, Call.operands, KnownAt, List.lookup, consD] at hk
          simp [execOp, Act.eval, hk, go_sem]
          all_goals rfl
        apply gw_val
        · intro a' w' hk
          refine ⟨wanted_guard (t := 95) rfl rfl (by simpa [KnownAt, List.lookup, consD] using hk 95 (by decide)), ?_⟩
          simp [Oper.looksAt, Op.operands, Call.operands, KnownAt, List.lookup, consD] at hk
          simp [execOp, Act.eval, hk, go_sem]
          all_goals rfl
        refine gw_valB (fun y _ => y = .int .i64 (p2 : Int)) (mono_eq _) ?_ ?_
        · intro a' w' hb' hk
          refine ⟨wanted_guard (t := 95) rfl rfl (by simpa [KnownAt, List.lookup, consD] using hk 95 (by decide)), _, ?_, rfl⟩
          have hcc := cell_later5 K1.out hb'
          simp [Oper.looksAt, Op.operands, Call.operands, KnownAt, List.lookup, consD] at hk
          simp [execOp, Act.eval, hk, hcc, go_sem]
          all_goals rfl
        apply gw_val
        · intro a' w' hk
          refine ⟨wanted_guard (t := 95) rfl rfl (by simpa [KnownAt, List.lookup, consD] using hk 95 (by decide)), ?_⟩
          simp [Oper.looksAt, Op.operands, Call.operands, KnownAt, List.lookup, consD] at hk
          simp [execOp, Act.eval, hk, go_sem, hsub, hsub2]
          all_goals rfl
        apply gw_val
        · intro a' w' hk
          refine ⟨wanted_guard (t := 95) rfl rfl (by simpa [KnownAt, List.lookup, consD] using hk 95 (by decide)), ?_⟩
          simp [Oper.looksAt, Op.operands, Call.operands, KnownAt, List.lookup, consD] at hk
          simp [execOp, Act.eval, hk, go_sem, hsub, hsub2]
          all_goals rfl
        apply gw_val
        · intro a' w' hk
          refine ⟨wanted_none rfl, ?_⟩
          simp [Oper.looksAt, Op.operands, Call.operands, KnownAt, List.lookup, consD] at hk
          simp [execOp, Act.eval, hk, go_sem]
          all_goals rfl
        intro vs w8 hb8 hall
        simp only [AllS, consD] at hall
        simp only [consD, putAllS, Act.put]
        obtain ⟨h109, -⟩ := hall
        rw [h109]
        simp only [List.setIfInBounds_toArray, List.set_cons_succ, List.set_cons_zero]
        have hB8 : Below w7.heap.size w7 w8 := ((Below.refl w7.heap.size w7).drew).trans hb8
        have HP8 := Lib.hid (HP7.out.on hB8)
        clear hb8 hB8 h109 HP7 K0 K1 HRD hsub hsub2
        by_cases he : er = 0
        · subst he
          go_wp2
          go_roundw
          case rel => exact ⟨i + 1, p2, by omega, by go_num, HP8.out⟩
          case measure => simp [intOf] <;> omega
        · have hne : (er != 0) = true := by simpa using he
          go_wp2
          go_ret
          exact ⟨rfl, HP8.out.below⟩
      · have hin' : i = 8 * m + 1 := by omega
        subst hin'
        have HP := Lib.hid hPR
        clear hPR
        go_wp2
        go_ret
        exact ⟨rfl, HP.out.below⟩
end Go.Proofs.Ytnmdgmjheopolaa
