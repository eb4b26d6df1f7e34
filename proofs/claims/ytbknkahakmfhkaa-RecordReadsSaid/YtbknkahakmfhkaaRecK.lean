/- Package record: ReadEnd, ReadBehind. -/
import Derived.Test.YtbknkahakmfhkaaRecJ
namespace Go.Proofs.Ytbknkahakmfhkaa
open Go.RowKit
set_option linter.unusedVariables false
set_option linter.unusedSimpArgs false

/-- A reader in use. -/
def HRt (w w1 : World) (gr g : Nat) (l : List UInt8) (s : Nat × Int) (odd : Bool) (M : World → Prop) : Prop := RdOk w1 gr g l s odd ∧ Gs w w1 [g, gr] ∧ M w1
section
variable {w w1 w2 : World} {gr g : Nat} {l : List UInt8} {s s' : Nat × Int} {odd odd' : Bool} {S : List Nat}
end
theorem rd_new0 {w : World} {g : Nat} {l : List UInt8} {s : Nat × Int} (h : CurOk w g l s.1 s.2) : RdOk (w.alloc (.cells #[.pointer (some ⟨g, 0, none⟩), .bool false] TRd)) w.heap.size g l s false := by
  have hb := below_alloc w (.cells #[.pointer (some ⟨g, 0, none⟩), .bool false] TRd)
  obtain ⟨a, n, c, h1, _⟩ := h.ex
  exact ⟨Blk.new w TRd _, h.below hb, h1.lt⟩
def endP (l : List UInt8) (s : Nat × Int) : (Int × Int × Int) × (Nat × Int) :=
  let n2 := nghS l (rdS l 4 s) false 2
  let many := rdN l 2 n2.1
  let s4 := rdS l 2 (rdS l 2 n2.1)
  let n7 := nghS l (rdS l 4 (rdS l 4 s4)) (n2.2 || !(rdN l 2 (rdS l 2 n2.1) == many)) 1
  let er := doneE n7.1.2 (rdN l 4 s) 101010256 n7.2
  (if er = 0 then (many, rdN l 4 s4, rdN l 4 (rdS l 4 s4)) else (0, 0, 0), (n7.1.1, er))
set_option maxRecDepth 100000 in
set_option maxHeartbeats 16000000 in
theorem cReadEnd_any (g : Nat) (l : List UInt8) (s : Nat × Int) (w : World) (h : CurOk w g l s.1 s.2) :
  Calls Try.prog 29 #[.pointer (some ⟨g, 0, none⟩)] w fun e w' => e = .returned (.tuple #[.int .i64 (endP l s).1.1, .int .i64 (endP l s).1.2.1, .int .i64 (endP l s).1.2.2]) ∧ CurOk w' g l (endP l s).2.1 (endP l s).2.2 ∧ w.grownBy w' (some g) := by
  have hr := rd_new0 h
  have HR0 := Lib.hid (And.intro hr (Gs.of_below (S := [g, w.heap.size]) (below_alloc w (.cells #[.pointer (some ⟨g, 0, none⟩), .bool false] TRd))))
  clear h hr
  go_enter Try.func29, Try.ntmps29
  go_wp2_with fail
  obtain ⟨gr, hgr⟩ : ∃ o, o = w.heap.size := ⟨_, rfl⟩
  have HGR : Hid (w.heap.size ≤ gr) := Lib.hid (by omega)
  rw [← hgr] at HR0 ⊢
  clear hgr
  generalize w.alloc (.cells #[.pointer (some ⟨g, 0, none⟩), .bool false] TRd) = w0 at HR0 ⊢
  refine (four_any gr g l s false w0 HR0.out.1).mono ?_
  rintro e w1 ⟨rfl, h1, hg1⟩
  have H1 := Lib.hid (And.intro h1 (HR0.out.2.trans (hg1.mono (S' := [g, gr]) (by simp))))
  generalize hmk : rdN l 4 s = mk
  have HMK := Lib.hid hmk
  clear h1 hg1 HR0 hmk
  go_wp2_with fail
  refine (noughts_any gr g l (rdS l 4 s) false 2 w1 (by decide) H1.out.1).mono ?_
  rintro e w2 ⟨rfl, h2, hg2⟩
  have H2 := Lib.hid (And.intro h2 (H1.out.2.trans hg2))
  generalize hn2 : nghS l (rdS l 4 s) false 2 = n2 at H2
  have HN2 := Lib.hid hn2
  clear h2 hg2 H1 hn2
  go_wp2_with fail
  refine (two_any gr g l n2.1 n2.2 w2 H2.out.1).mono ?_
  rintro e w3 ⟨rfl, h3, hg3⟩
  have H3 := Lib.hid (And.intro h3 (H2.out.2.trans (hg3.mono (S' := [g, gr]) (by simp))))
  generalize hmy : rdN l 2 n2.1 = my
  have HMY := Lib.hid hmy
  clear h3 hg3 H2 hmy
  go_wp2_with fail
  refine (two_any gr g l (rdS l 2 n2.1) n2.2 w3 H3.out.1).mono ?_
  rintro e w4 ⟨rfl, h4, hg4⟩
  have H4 := Lib.hid (And.intro h4 (H3.out.2.trans (hg4.mono (S' := [g, gr]) (by simp))))
  generalize hx : rdN l 2 (rdS l 2 n2.1) = x
  have HX := Lib.hid hx
  clear h4 hg4 H3 hx
  go_wp2_with fail
  refine (is_any gr g l _ n2.2 (x == my) w4 H4.out.1).mono ?_
  rintro e w5 ⟨rfl, h5, hg5⟩
  have H5 := Lib.hid (And.intro h5 (H4.out.2.trans (hg5.mono (S' := [g, gr]) (by simp))))
  generalize hs4 : rdS l 2 (rdS l 2 n2.1) = s4 at H5
  have HS4 := Lib.hid hs4
  clear h5 hg5 H4 hs4
  go_wp2_with fail
  refine (four_any gr g l s4 _ w5 H5.out.1).mono ?_
  rintro e w6 ⟨rfl, h6, hg6⟩
  have H6 := Lib.hid (And.intro h6 (H5.out.2.trans (hg6.mono (S' := [g, gr]) (by simp))))
  generalize hsz : rdN l 4 s4 = sz
  have HSZ := Lib.hid hsz
  clear h6 hg6 H5 hsz
  go_wp2_with fail
  refine (four_any gr g l (rdS l 4 s4) _ w6 H6.out.1).mono ?_
  rintro e w7 ⟨rfl, h7, hg7⟩
  have H7 := Lib.hid (And.intro h7 (H6.out.2.trans (hg7.mono (S' := [g, gr]) (by simp))))
  generalize hfr : rdN l 4 (rdS l 4 s4) = fr
  have HFR := Lib.hid hfr
  clear h7 hg7 H6 hfr
  go_wp2_with fail
  refine (noughts_any gr g l _ _ 1 w7 (by decide) H7.out.1).mono ?_
  rintro e w8 ⟨rfl, h8, hg8⟩
  have H8 := Lib.hid (And.intro h8 (H7.out.2.trans hg8))
  generalize hn7 : nghS l (rdS l 4 (rdS l 4 s4)) (n2.2 || !(x == my)) 1 = n7 at H8
  have HN7 := Lib.hid hn7
  clear h8 hg8 H7 hn7
  go_wp2_with fail
  refine (done_any gr g l n7.1 n7.2 mk 101010256 w8 H8.out.1).mono ?_
  rintro e w9 ⟨rfl, h9, hg9⟩
  have H9 := Lib.hid (And.intro h9.cur ((H8.out.2.trans (hg9.mono (S' := [g, gr]) (by simp))).grown (g := g) (by intro k hk; simp only [List.mem_cons, List.not_mem_nil, or_false] at hk; rcases hk with rfl | rfl; exact .inl rfl; exact .inr HGR.out)))
  have HE : Hid (endP l s = (if doneE n7.1.2 mk 101010256 n7.2 = 0 then (my, sz, fr) else (0, 0, 0), (n7.1.1, doneE n7.1.2 mk 101010256 n7.2))) := Lib.hid (by
    unfold endP
    simp only []
    rw [HN2.out, HMY.out, HX.out, HS4.out, HSZ.out, HFR.out, HN7.out, HMK.out])
  generalize doneE n7.1.2 mk 101010256 n7.2 = er at H9 HE ⊢
  clear h9 hg9 H8 HN2 HMY HX HS4 HSZ HFR HN7 HMK
  by_cases he : er = 0
  · subst he
    have HE2 : Hid (endP l s = ((my, sz, fr), (n7.1.1, 0))) := Lib.hid (by rw [HE.out, if_pos rfl])
    clear HE
    go_wp2
    go_ret3
    rw [HE2.out]
    exact ⟨rfl, H9.out⟩
  · have HE2 : Hid (endP l s = ((0, 0, 0), (n7.1.1, er))) := Lib.hid (by rw [HE.out, if_neg he])
    have he' : (er == 0) = false := by simpa using he
    clear HE he
    go_wp2
    go_ret3
    rw [HE2.out]
    exact ⟨rfl, H9.out⟩
end Go.Proofs.Ytbknkahakmfhkaa
