/- What is written of a record is read. -/
import Derived.Test.YtbknkahakmfhkaaRecN
import Derived.Test.YtbknkahakmfhkaaRecD
namespace Go.Proofs.Ytbknkahakmfhkaa
open Go.RowKit
set_option linter.unusedVariables false
set_option linter.unusedSimpArgs false

theorem u64N_pos (v : Int) (h0 : 0 ≤ v) (h1 : v < 18446744073709551616) : u64N v = v.toNat := by
  unfold u64N; rw [Int.emod_eq_of_lt h0 h1]
theorem rd_at {L : List UInt8} {p m : Nat} {v : Int} {rest : List UInt8} (h : L.drop p = encI v m ++ rest) (hm : m = 2 ∨ m = 4) (h0 : 0 ≤ v) (h1 : v < ((256 ^ m : Nat) : Int)) :
    rdN L m (p, 0) = v ∧ rdS L m (p, 0) = (p + m, 0) ∧ L.drop (p + m) = rest ∧ p + m ≤ L.length := by
  have hs : sizedB (m : Int) = true := by rcases hm with rfl | rfl <;> rfl
  have h2 : (256 ^ m : Nat) ≤ 4294967296 := by rcases hm with rfl | rfl <;> decide
  have he : encI v m = littleL v.toNat m := by
    unfold encI putL; rw [if_pos hs, u64N_pos v h0 (by omega), Int.toNat_natCast]
  have hlen : (encI v m).length = m := by rw [he, littleL_length]
  have hll : L.length - p = m + rest.length := by
    have := congrArg List.length h
    rw [List.length_drop, List.length_append, hlen] at this
    exact this
  have hm0 : 0 < m := by omega
  have hok : nextOk L.length p 0 m true = true := by
    unfold nextOk
    exact decide_eq_true ⟨rfl, by omega, rfl, by omega⟩
  have hn : nextL L p 0 m true = littleL v.toNat m := by
    unfold nextL; rw [if_pos hok, h, Int.toNat_natCast, List.take_left' hlen, he]
  refine ⟨?_, ?_, ?_, by omega⟩
  · unfold rdN
    simp only []
    rw [hn, littleL_length, numLE_little _ _ _ (Nat.le_refl _), Nat.mod_eq_of_lt (by omega)]
    omega
  · unfold rdS nextAt nextEr
    simp only []
    rw [if_pos hok, Int.toNat_natCast, if_neg (by simp), if_neg (by simp), if_neg (by omega)]
  · rw [← List.drop_drop, h, List.drop_left' hlen]
theorem tk_at {L : List UInt8} {p : Nat} {n : Int} {nm rest : List UInt8} (h : L.drop p = nm ++ rest) (hn : (nm.length : Int) = n) (hp : p ≤ L.length) :
    tkN L n (p, 0) = strOf nm ∧ tkS L n (p, 0) = (p + nm.length, 0) ∧ L.drop (p + nm.length) = rest := by
  subst hn
  have hll : L.length - p = nm.length + rest.length := by
    have := congrArg List.length h
    rw [List.length_drop, List.length_append] at this
    exact this
  have hok : nextOk L.length p 0 (nm.length : Int) true = true := by
    unfold nextOk
    exact decide_eq_true ⟨rfl, by omega, rfl, by omega⟩
  refine ⟨?_, ?_, ?_⟩
  · unfold tkN nextL
    simp only []
    rw [if_pos hok, h, Int.toNat_natCast, List.take_left' rfl]
  · unfold tkS nextAt nextEr
    simp only []
    rw [if_pos hok, Int.toNat_natCast, if_neg (by simp), if_neg (by simp), if_neg (by omega)]
  · rw [← List.drop_drop, h, List.drop_left' rfl]
theorem strOf_nameL (s : ByteArray) : strOf (nameL s) = s := by cases s; rfl
structure Rec.In (r : Rec) : Prop where
  me : r.me = 0 ∨ r.me = 8
  ok : r.Ok
  pa : 0 ≤ r.pa ∧ r.pa < 4294967296
  si : 0 ≤ r.si ∧ r.si < 4294967296
  of : 0 ≤ r.of ∧ r.of < 4294967296
  na : r.na.size ≤ 300
set_option maxHeartbeats 4000000 in
theorem central_back (r : Rec) (bh : Bool) (h : r.In) : ∃ p, centralP (centralL r bh) (0, 0) = ((r, bh), (p, 0)) ∧ (centralL r bh).length ≤ p := by
  obtain ⟨hme, ⟨hda, hcl, hsu⟩, hpa, hsi, hof, hna⟩ := h
  obtain ⟨me, da, cl, su, pa, si, na, of⟩ := r
  simp only at hme hda hcl hsu hpa hsi hof hna
  have hme2 : 0 ≤ me ∧ me < 65536 := by omega
  have hmm : meth me = true := by rcases hme with rfl | rfl <;> rfl
  have m8 : meth 8 = true := rfl
  have m0 : meth 0 = true := rfl
  have z08 : ((0 : Int) == 8) = false := rfl
  have hnl : (0 : Int) ≤ (na.size : Int) ∧ (na.size : Int) < 65536 := by omega
  cases bh with
  | true =>
    have h0 : (centralL ⟨me, da, cl, su, pa, si, na, of⟩ true).drop 0 = encI 33639248 4 ++ (encI 20 2 ++ (encI 20 2 ++ (encI 8 2 ++ (encI me 2 ++ (encI cl 2 ++ (encI da 2 ++ (encI su 4 ++ (encI pa 4 ++ (encI si 4 ++ (encI (na.size : Int) 2 ++ (encI 0 2 ++ (encI 0 2 ++ (encI 0 2 ++ (encI 0 2 ++ (encI 0 4 ++ (encI of 4 ++ nameL na)))))))))))))))) := by
      simp [centralL, encs, flagI]
    generalize centralL ⟨me, da, cl, su, pa, si, na, of⟩ true = L at h0 ⊢
    obtain ⟨v1, s1, h1, l1⟩ := rd_at (m := 4) h0 (.inr rfl) (by decide) (by decide)
    obtain ⟨v2, s2, h2, l2⟩ := rd_at (m := 2) h1 (.inl rfl) (by decide) (by decide)
    obtain ⟨v3, s3, h3, l3⟩ := rd_at (m := 2) h2 (.inl rfl) (by decide) (by decide)
    obtain ⟨v4, s4, h4, l4⟩ := rd_at (m := 2) h3 (.inl rfl) (by decide) (by decide)
    obtain ⟨v5, s5, h5, l5⟩ := rd_at (m := 2) h4 (.inl rfl) (hme2.1) (hme2.2)
    obtain ⟨v6, s6, h6, l6⟩ := rd_at (m := 2) h5 (.inl rfl) (hcl.1) (hcl.2)
    obtain ⟨v7, s7, h7, l7⟩ := rd_at (m := 2) h6 (.inl rfl) (hda.1) (hda.2)
    obtain ⟨v8, s8, h8, l8⟩ := rd_at (m := 4) h7 (.inr rfl) (hsu.1) (hsu.2)
    obtain ⟨v9, s9, h9, l9⟩ := rd_at (m := 4) h8 (.inr rfl) (hpa.1) (hpa.2)
    obtain ⟨v10, s10, h10, l10⟩ := rd_at (m := 4) h9 (.inr rfl) (hsi.1) (hsi.2)
    obtain ⟨v11, s11, h11, l11⟩ := rd_at (m := 2) h10 (.inl rfl) (hnl.1) (hnl.2)
    obtain ⟨v12, s12, h12, l12⟩ := rd_at (m := 2) h11 (.inl rfl) (by decide) (by decide)
    obtain ⟨v13, s13, h13, l13⟩ := rd_at (m := 2) h12 (.inl rfl) (by decide) (by decide)
    obtain ⟨v14, s14, h14, l14⟩ := rd_at (m := 2) h13 (.inl rfl) (by decide) (by decide)
    obtain ⟨v15, s15, h15, l15⟩ := rd_at (m := 2) h14 (.inl rfl) (by decide) (by decide)
    obtain ⟨v16, s16, h16, l16⟩ := rd_at (m := 4) h15 (.inr rfl) (by decide) (by decide)
    obtain ⟨v17, s17, h17, l17⟩ := rd_at (m := 4) h16 (.inr rfl) (hof.1) (hof.2)
    have hN := congrArg List.length h17
    rw [List.length_drop, nameL_len] at hN
    have hpl : 0 + 4 + 2 + 2 + 2 + 2 + 2 + 2 + 4 + 4 + 4 + 2 + 2 + 2 + 2 + 2 + 4 + 4 ≤ L.length := l17
    obtain ⟨t1, t2, t3⟩ := tk_at (n := (na.size : Int)) (nm := nameL na) (rest := []) (by rw [List.append_nil]; exact h17) (by rw [nameL_len]) hpl
    rw [strOf_nameL] at t1
    refine ⟨0 + 4 + 2 + 2 + 2 + 2 + 2 + 2 + 4 + 4 + 4 + 2 + 2 + 2 + 2 + 2 + 4 + 4 + (nameL na).length, ?_, by rw [nameL_len]; omega⟩
    simp only [centralP, sharedR, sharedO, sharedB, rdDataS, rdDataR, rdT, nghS, v1, v2, v3, v4, v5, v6, v7, v8, v9, v10, v11, v12, v13, v14, v15, v16, v17, s1, s2, s3, s4, s5, s6, s7, s8, s9, s10, s11, s12, s13, s14, s15, s16, s17, hmm, namedR, namedB, doneE, t1, t2, zeroR, m8, m0, z08, beq_self_eq_true, Bool.not_true, Bool.or_false, Bool.false_or, if_true, if_pos, Bool.and_true, Bool.true_and, Bool.true_or, Bool.not_false]
    all_goals first | done | rfl | simp [t1, t2]
  | false =>
    have h0 : (centralL ⟨me, da, cl, su, pa, si, na, of⟩ false).drop 0 = encI 33639248 4 ++ (encI 20 2 ++ (encI 20 2 ++ (encI 0 2 ++ (encI me 2 ++ (encI cl 2 ++ (encI da 2 ++ (encI su 4 ++ (encI pa 4 ++ (encI si 4 ++ (encI (na.size : Int) 2 ++ (encI 0 2 ++ (encI 0 2 ++ (encI 0 2 ++ (encI 0 2 ++ (encI 0 4 ++ (encI of 4 ++ nameL na)))))))))))))))) := by
      simp [centralL, encs, flagI]
    generalize centralL ⟨me, da, cl, su, pa, si, na, of⟩ false = L at h0 ⊢
    obtain ⟨v1, s1, h1, l1⟩ := rd_at (m := 4) h0 (.inr rfl) (by decide) (by decide)
    obtain ⟨v2, s2, h2, l2⟩ := rd_at (m := 2) h1 (.inl rfl) (by decide) (by decide)
    obtain ⟨v3, s3, h3, l3⟩ := rd_at (m := 2) h2 (.inl rfl) (by decide) (by decide)
    obtain ⟨v4, s4, h4, l4⟩ := rd_at (m := 2) h3 (.inl rfl) (by decide) (by decide)
    obtain ⟨v5, s5, h5, l5⟩ := rd_at (m := 2) h4 (.inl rfl) (hme2.1) (hme2.2)
    obtain ⟨v6, s6, h6, l6⟩ := rd_at (m := 2) h5 (.inl rfl) (hcl.1) (hcl.2)
    obtain ⟨v7, s7, h7, l7⟩ := rd_at (m := 2) h6 (.inl rfl) (hda.1) (hda.2)
    obtain ⟨v8, s8, h8, l8⟩ := rd_at (m := 4) h7 (.inr rfl) (hsu.1) (hsu.2)
    obtain ⟨v9, s9, h9, l9⟩ := rd_at (m := 4) h8 (.inr rfl) (hpa.1) (hpa.2)
    obtain ⟨v10, s10, h10, l10⟩ := rd_at (m := 4) h9 (.inr rfl) (hsi.1) (hsi.2)
    obtain ⟨v11, s11, h11, l11⟩ := rd_at (m := 2) h10 (.inl rfl) (hnl.1) (hnl.2)
    obtain ⟨v12, s12, h12, l12⟩ := rd_at (m := 2) h11 (.inl rfl) (by decide) (by decide)
    obtain ⟨v13, s13, h13, l13⟩ := rd_at (m := 2) h12 (.inl rfl) (by decide) (by decide)
    obtain ⟨v14, s14, h14, l14⟩ := rd_at (m := 2) h13 (.inl rfl) (by decide) (by decide)
    obtain ⟨v15, s15, h15, l15⟩ := rd_at (m := 2) h14 (.inl rfl) (by decide) (by decide)
    obtain ⟨v16, s16, h16, l16⟩ := rd_at (m := 4) h15 (.inr rfl) (by decide) (by decide)
    obtain ⟨v17, s17, h17, l17⟩ := rd_at (m := 4) h16 (.inr rfl) (hof.1) (hof.2)
    have hN := congrArg List.length h17
    rw [List.length_drop, nameL_len] at hN
    have hpl : 0 + 4 + 2 + 2 + 2 + 2 + 2 + 2 + 4 + 4 + 4 + 2 + 2 + 2 + 2 + 2 + 4 + 4 ≤ L.length := l17
    obtain ⟨t1, t2, t3⟩ := tk_at (n := (na.size : Int)) (nm := nameL na) (rest := []) (by rw [List.append_nil]; exact h17) (by rw [nameL_len]) hpl
    rw [strOf_nameL] at t1
    refine ⟨0 + 4 + 2 + 2 + 2 + 2 + 2 + 2 + 4 + 4 + 4 + 2 + 2 + 2 + 2 + 2 + 4 + 4 + (nameL na).length, ?_, by rw [nameL_len]; omega⟩
    simp only [centralP, sharedR, sharedO, sharedB, rdDataS, rdDataR, rdT, nghS, v1, v2, v3, v4, v5, v6, v7, v8, v9, v10, v11, v12, v13, v14, v15, v16, v17, s1, s2, s3, s4, s5, s6, s7, s8, s9, s10, s11, s12, s13, s14, s15, s16, s17, hmm, namedR, namedB, doneE, t1, t2, zeroR, m8, m0, z08, beq_self_eq_true, Bool.not_true, Bool.or_false, Bool.false_or, if_true, if_pos, Bool.and_true, Bool.true_and, Bool.true_or, Bool.not_false]
    all_goals first | done | rfl | simp [t1, t2]
set_option maxHeartbeats 4000000 in
theorem local_back (r : Rec) (bh : Bool) (h : r.In) : ∃ p, localP (localL r bh) (0, 0) = (({ r with of := 0, su := if bh then 0 else r.su, pa := if bh then 0 else r.pa, si := if bh then 0 else r.si }, bh), (p, 0)) ∧ (localL r bh).length ≤ p := by
  obtain ⟨hme, ⟨hda, hcl, hsu⟩, hpa, hsi, hof, hna⟩ := h
  obtain ⟨me, da, cl, su, pa, si, na, of⟩ := r
  simp only at hme hda hcl hsu hpa hsi hof hna
  have hme2 : 0 ≤ me ∧ me < 65536 := by omega
  have hmm : meth me = true := by rcases hme with rfl | rfl <;> rfl
  have m8 : meth 8 = true := rfl
  have m0 : meth 0 = true := rfl
  have z08 : ((0 : Int) == 8) = false := rfl
  have hnl : (0 : Int) ≤ (na.size : Int) ∧ (na.size : Int) < 65536 := by omega
  cases bh with
  | true =>
    have h0 : (localL ⟨me, da, cl, su, pa, si, na, of⟩ true).drop 0 = encI 67324752 4 ++ (encI 20 2 ++ (encI 8 2 ++ (encI me 2 ++ (encI cl 2 ++ (encI da 2 ++ (encI 0 4 ++ (encI 0 4 ++ (encI 0 4 ++ (encI (na.size : Int) 2 ++ (encI 0 2 ++ nameL na)))))))))) := by
      simp [localL, encs, flagI]
    generalize localL ⟨me, da, cl, su, pa, si, na, of⟩ true = L at h0 ⊢
    obtain ⟨v1, s1, h1, l1⟩ := rd_at (m := 4) h0 (.inr rfl) (by decide) (by decide)
    obtain ⟨v2, s2, h2, l2⟩ := rd_at (m := 2) h1 (.inl rfl) (by decide) (by decide)
    obtain ⟨v3, s3, h3, l3⟩ := rd_at (m := 2) h2 (.inl rfl) (by decide) (by decide)
    obtain ⟨v4, s4, h4, l4⟩ := rd_at (m := 2) h3 (.inl rfl) (hme2.1) (hme2.2)
    obtain ⟨v5, s5, h5, l5⟩ := rd_at (m := 2) h4 (.inl rfl) (hcl.1) (hcl.2)
    obtain ⟨v6, s6, h6, l6⟩ := rd_at (m := 2) h5 (.inl rfl) (hda.1) (hda.2)
    obtain ⟨v7, s7, h7, l7⟩ := rd_at (m := 4) h6 (.inr rfl) (by decide) (by decide)
    obtain ⟨v8, s8, h8, l8⟩ := rd_at (m := 4) h7 (.inr rfl) (by decide) (by decide)
    obtain ⟨v9, s9, h9, l9⟩ := rd_at (m := 4) h8 (.inr rfl) (by decide) (by decide)
    obtain ⟨v10, s10, h10, l10⟩ := rd_at (m := 2) h9 (.inl rfl) (hnl.1) (hnl.2)
    obtain ⟨v11, s11, h11, l11⟩ := rd_at (m := 2) h10 (.inl rfl) (by decide) (by decide)
    have hN := congrArg List.length h11
    rw [List.length_drop, nameL_len] at hN
    have hpl : 0 + 4 + 2 + 2 + 2 + 2 + 2 + 4 + 4 + 4 + 2 + 2 ≤ L.length := l11
    obtain ⟨t1, t2, t3⟩ := tk_at (n := (na.size : Int)) (nm := nameL na) (rest := []) (by rw [List.append_nil]; exact h11) (by rw [nameL_len]) hpl
    rw [strOf_nameL] at t1
    refine ⟨0 + 4 + 2 + 2 + 2 + 2 + 2 + 4 + 4 + 4 + 2 + 2 + (nameL na).length, ?_, by rw [nameL_len]; omega⟩
    simp only [localP, sharedR, sharedO, sharedB, rdDataS, rdDataR, rdT, nghS, v1, v2, v3, v4, v5, v6, v7, v8, v9, v10, v11, s1, s2, s3, s4, s5, s6, s7, s8, s9, s10, s11, hmm, namedR, namedB, doneE, t1, t2, zeroR, m8, m0, z08, beq_self_eq_true, Bool.not_true, Bool.or_false, Bool.false_or, if_true, if_pos, Bool.and_true, Bool.true_and, Bool.true_or, Bool.not_false]
    all_goals first | done | rfl | simp [t1, t2]
  | false =>
    have h0 : (localL ⟨me, da, cl, su, pa, si, na, of⟩ false).drop 0 = encI 67324752 4 ++ (encI 20 2 ++ (encI 0 2 ++ (encI me 2 ++ (encI cl 2 ++ (encI da 2 ++ (encI su 4 ++ (encI pa 4 ++ (encI si 4 ++ (encI (na.size : Int) 2 ++ (encI 0 2 ++ nameL na)))))))))) := by
      simp [localL, encs, flagI]
    generalize localL ⟨me, da, cl, su, pa, si, na, of⟩ false = L at h0 ⊢
    obtain ⟨v1, s1, h1, l1⟩ := rd_at (m := 4) h0 (.inr rfl) (by decide) (by decide)
    obtain ⟨v2, s2, h2, l2⟩ := rd_at (m := 2) h1 (.inl rfl) (by decide) (by decide)
    obtain ⟨v3, s3, h3, l3⟩ := rd_at (m := 2) h2 (.inl rfl) (by decide) (by decide)
    obtain ⟨v4, s4, h4, l4⟩ := rd_at (m := 2) h3 (.inl rfl) (hme2.1) (hme2.2)
    obtain ⟨v5, s5, h5, l5⟩ := rd_at (m := 2) h4 (.inl rfl) (hcl.1) (hcl.2)
    obtain ⟨v6, s6, h6, l6⟩ := rd_at (m := 2) h5 (.inl rfl) (hda.1) (hda.2)
    obtain ⟨v7, s7, h7, l7⟩ := rd_at (m := 4) h6 (.inr rfl) (hsu.1) (hsu.2)
    obtain ⟨v8, s8, h8, l8⟩ := rd_at (m := 4) h7 (.inr rfl) (hpa.1) (hpa.2)
    obtain ⟨v9, s9, h9, l9⟩ := rd_at (m := 4) h8 (.inr rfl) (hsi.1) (hsi.2)
    obtain ⟨v10, s10, h10, l10⟩ := rd_at (m := 2) h9 (.inl rfl) (hnl.1) (hnl.2)
    obtain ⟨v11, s11, h11, l11⟩ := rd_at (m := 2) h10 (.inl rfl) (by decide) (by decide)
    have hN := congrArg List.length h11
    rw [List.length_drop, nameL_len] at hN
    have hpl : 0 + 4 + 2 + 2 + 2 + 2 + 2 + 4 + 4 + 4 + 2 + 2 ≤ L.length := l11
    obtain ⟨t1, t2, t3⟩ := tk_at (n := (na.size : Int)) (nm := nameL na) (rest := []) (by rw [List.append_nil]; exact h11) (by rw [nameL_len]) hpl
    rw [strOf_nameL] at t1
    refine ⟨0 + 4 + 2 + 2 + 2 + 2 + 2 + 4 + 4 + 4 + 2 + 2 + (nameL na).length, ?_, by rw [nameL_len]; omega⟩
    simp only [localP, sharedR, sharedO, sharedB, rdDataS, rdDataR, rdT, nghS, v1, v2, v3, v4, v5, v6, v7, v8, v9, v10, v11, s1, s2, s3, s4, s5, s6, s7, s8, s9, s10, s11, hmm, namedR, namedB, doneE, t1, t2, zeroR, m8, m0, z08, beq_self_eq_true, Bool.not_true, Bool.or_false, Bool.false_or, if_true, if_pos, Bool.and_true, Bool.true_and, Bool.true_or, Bool.not_false]
    all_goals first | done | rfl | simp [t1, t2]
set_option maxHeartbeats 4000000 in
theorem behind_back (r : Rec) (h : r.In) : ∃ p, behP (behindL r) (0, 0) = ({ zeroR with su := r.su, pa := r.pa, si := r.si }, (p, 0)) ∧ (behindL r).length ≤ p := by
  obtain ⟨hme, ⟨hda, hcl, hsu⟩, hpa, hsi, hof, hna⟩ := h
  obtain ⟨me, da, cl, su, pa, si, na, of⟩ := r
  simp only at hme hda hcl hsu hpa hsi hof hna
  have h0 : (behindL ⟨me, da, cl, su, pa, si, na, of⟩).drop 0 = encI 134695760 4 ++ (encI su 4 ++ (encI pa 4 ++ (encI si 4 ++ []))) := by
    simp [behindL, encs]
  generalize behindL ⟨me, da, cl, su, pa, si, na, of⟩ = L at h0 ⊢
  obtain ⟨v1, s1, h1, l1⟩ := rd_at (m := 4) h0 (.inr rfl) (by decide) (by decide)
  obtain ⟨v2, s2, h2, l2⟩ := rd_at (m := 4) h1 (.inr rfl) (hsu.1) (hsu.2)
  obtain ⟨v3, s3, h3, l3⟩ := rd_at (m := 4) h2 (.inr rfl) (hpa.1) (hpa.2)
  obtain ⟨v4, s4, h4, l4⟩ := rd_at (m := 4) h3 (.inr rfl) (hsi.1) (hsi.2)
  have hN := congrArg List.length h4
  rw [List.length_drop, List.length_nil] at hN
  refine ⟨0 + 4 + 4 + 4 + 4, ?_, by omega⟩
  simp only [behP, rdDataS, rdDataR, v1, s1, v2, s2, v3, s3, v4, s4, doneE, if_true, zeroR]
  all_goals first | done | rfl | simp
end Go.Proofs.Ytbknkahakmfhkaa
