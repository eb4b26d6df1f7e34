/- Package record: ReadBehind, ReadLocal. -/
import Derived.Test.YtbknkahakmfhkaaRecK
namespace Go.Proofs.Ytbknkahakmfhkaa
open Go.RowKit
set_option linter.unusedVariables false
set_option linter.unusedSimpArgs false

/-- A reader in use; the result's cell, still empty. -/
def HXt (w w1 : World) (gr g : Nat) (l : List UInt8) (s : Nat × Int) (odd : Bool) (o2 : Nat) : Prop := RdOk w1 gr g l s odd ∧ Gs w w1 [g, gr] ∧ Blk w1 o2 TR zeroR.arr ∧ g < o2 ∧ gr ≠ o2 ∧ w.heap.size ≤ gr ∧ w.heap.size ≤ o2
section
variable {w w1 w2 : World} {gr g o2 : Nat} {l : List UInt8} {s s' : Nat × Int} {odd odd' : Bool} {S : List Nat}
theorem HXt.step (h : HXt w w1 gr g l s odd o2) (h2 : RdOk w2 gr g l s' odd') (hg : Gs w1 w2 S) (hS : ∀ k ∈ S, k = g ∨ k = gr) : HXt w w2 gr g l s' odd' o2 := by
  obtain ⟨h1, h3, h4, h5, h6, h7⟩ := h
  refine ⟨h2, h3.trans (hg.mono (fun k hk => ?_)), h4.gs hg (fun hm => ?_), h5, h6, h7⟩
  · rcases hS k hk with rfl | rfl <;> simp
  · rcases hS o2 hm with rfl | rfl <;> omega
theorem HXt.below (h : HXt w w1 gr g l s odd o2) (hb : Below w1.heap.size w1 w2) : HXt w w2 gr g l s odd o2 := by
  obtain ⟨h1, h3, h4, h5⟩ := h
  exact ⟨h1.below hb, h3.trans (Gs.of_below hb), h4.below hb, h5⟩
theorem HXt.step3 {o : Nat} (h : HXt w w1 gr g l s odd o2) (h2 : RdOk w2 gr g l s' odd') (hg : Gs w1 w2 S) (hS : ∀ k ∈ S, k = g ∨ k = gr ∨ k = o) (ho : w.heap.size ≤ o ∧ o ≠ o2) : HXt w w2 gr g l s' odd' o2 := by
  obtain ⟨h1, h3, h4, h5, h6, h7, h8⟩ := h
  refine ⟨h2, ((h3.mono (S' := [g, gr, o]) (by simp)).trans (hg.mono (fun k hk => ?_))).drop (fun k hk => ?_), h4.gs hg (fun hm => ?_), h5, h6, h7, h8⟩
  · rcases hS k hk with rfl | rfl | rfl <;> simp
  · simp only [List.mem_cons, List.not_mem_nil, or_false] at hk
    rcases hk with rfl | rfl | rfl
    · exact .inl (by simp)
    · exact .inl (by simp)
    · exact .inr ho.1
  · rcases hS o2 hm with rfl | rfl | rfl
    · omega
    · omega
    · exact ho.2 rfl
theorem HXt.fin (h : HXt w w1 gr g l s odd o2) (hg : w1.grownBy w2 (some o2)) : CurOk w2 g l s.1 s.2 ∧ w.grownBy w2 (some g) := by
  obtain ⟨h1, h3, h4, h5, h6, h7, h8⟩ := h
  have hgs := Gs.of_grown hg
  refine ⟨h1.cur.gs hgs (by intro k hk; simp only [List.mem_singleton] at hk; omega), ((h3.mono (S' := [g, gr, o2]) (by simp)).trans (hgs.mono (by simp))).grown (fun k hk => ?_)⟩
  simp only [List.mem_cons, List.not_mem_nil, or_false] at hk
  rcases hk with rfl | rfl | rfl
  · exact .inl rfl
  · exact .inr h7
  · exact .inr h8
end
theorem CurOk.lt' {w : World} {g p : Nat} {l : List UInt8} {er : Int} (h : CurOk w g l p er) : g < w.heap.size := by
  obtain ⟨a, n, c, h1, _⟩ := h.ex; exact h1.lt
theorem HXt.new {w : World} {g : Nat} {l : List UInt8} {s : Nat × Int} (h : CurOk w g l s.1 s.2) : HXt w ((w.alloc (.cells zeroR.arr TR)).alloc (.cells #[.pointer (some ⟨g, 0, none⟩), .bool false] TRd)) (w.heap.size + 1) g l s false w.heap.size := by
  have hb := below_alloc w (.cells zeroR.arr TR)
  have hr := rd_new0 (h.below hb)
  have hb2 := below_alloc (w.alloc (.cells zeroR.arr TR)) (.cells #[.pointer (some ⟨g, 0, none⟩), .bool false] TRd)
  have hsz : (w.alloc (.cells zeroR.arr TR)).heap.size = w.heap.size + 1 := by simp
  rw [hsz] at hr
  obtain ⟨a, n, c, h1, _⟩ := h.ex
  have := h1.lt
  exact ⟨hr, (Gs.of_below hb).trans (Gs.of_below hb2), (Blk.new w TR zeroR.arr).below hb2, this, by omega, by omega, Nat.le_refl _⟩
def behP (l : List UInt8) (s : Nat × Int) : Rec × (Nat × Int) :=
  let s2 := rdDataS l (rdS l 4 s)
  let er := doneE s2.2 (rdN l 4 s) 134695760 false
  (if er = 0 then rdDataR l (rdS l 4 s) zeroR else zeroR, (s2.1, er))
set_option maxRecDepth 100000 in
set_option maxHeartbeats 16000000 in
theorem cReadBehind_any (g : Nat) (l : List UInt8) (s : Nat × Int) (w : World) (h : CurOk w g l s.1 s.2) :
  Calls Try.prog 24 #[.pointer (some ⟨g, 0, none⟩)] w fun e w' => e = .returned (.agg (behP l s).1.arr) ∧ CurOk w' g l (behP l s).2.1 (behP l s).2.2 ∧ w.grownBy w' (some g) := by
  have HX0 := Lib.hid (HXt.new h)
  clear h
  go_enter Try.func24, Try.ntmps24
  go_wp2_with fail
  simp only [zeroR, Rec.arr] at HX0
  obtain ⟨gr, hgr⟩ : ∃ o, o = w.heap.size + 1 := ⟨_, rfl⟩
  obtain ⟨o2, ho2⟩ : ∃ o, o = w.heap.size := ⟨_, rfl⟩
  rw [← hgr, ← ho2] at HX0 ⊢
  clear hgr ho2
  generalize (w.alloc (.cells #[.int .i64 0, .int .u16 0, .int .u16 0, .int .u32 0, .int .i64 0, .int .i64 0, .string ⟨#[]⟩, .int .i64 0] TR)).alloc (.cells #[.pointer (some ⟨g, 0, none⟩), .bool false] TRd) = w0 at HX0 ⊢
  refine (four_any gr g l s false w0 HX0.out.1).mono ?_
  rintro e w1 ⟨rfl, h1, hg1⟩
  have HX1 := Lib.hid (HX0.out.step h1 hg1 (by simp))
  clear h1 hg1 HX0
  generalize hmk : rdN l 4 s = mk
  have HMK := Lib.hid hmk
  clear hmk
  have hb5 := below_alloc w1 (.cells zeroR.arr TR)
  have hk5 := Blk.new w1 TR zeroR.arr
  have HX2 := Lib.hid (HX1.out.below hb5)
  have HO : Hid (w.heap.size ≤ w1.heap.size ∧ g < w1.heap.size ∧ gr < w1.heap.size ∧ o2 < w1.heap.size) := Lib.hid ⟨HX1.out.2.1.size, HX1.out.1.cur.lt', HX1.out.1.blk.lt, HX1.out.2.2.1.lt⟩
  have HK5 := Lib.hid hk5
  clear hb5 hk5 HX1
  go_wp2_with fail
  obtain ⟨o5, ho5⟩ : ∃ o, o = w1.heap.size := ⟨_, rfl⟩
  rw [← ho5] at HK5 HO ⊢
  clear ho5
  simp only [zeroR, Rec.arr] at HX2 HK5
  generalize w1.alloc (.cells #[.int .i64 0, .int .u16 0, .int .u16 0, .int .u32 0, .int .i64 0, .int .i64 0, .string ⟨#[]⟩, .int .i64 0] TR) = w2 at HX2 HK5 ⊢
  refine (rdata_any gr g o5 l _ false zeroR w2 HX2.out.1 HK5.out HO.out.2.1 (Nat.ne_of_lt HO.out.2.2.1)).mono ?_
  rintro e w3 ⟨rfl, h3, hb3, hg3⟩
  have HX3 := Lib.hid (HX2.out.step3 (o := o5) h3 hg3 (by simp) ⟨HO.out.1, (Nat.ne_of_lt HO.out.2.2.2).symm⟩)
  have HK6 := Lib.hid hb3
  clear h3 hb3 hg3 HX2 HK5
  go_wp2_with fail
  refine (done_any gr g l _ false mk 134695760 w3 HX3.out.1).mono ?_
  rintro e w4 ⟨rfl, h4, hg4⟩
  have HX4 := Lib.hid (HX3.out.step h4 hg4 (by simp))
  have HK7 := Lib.hid (HK6.out.gs hg4 (by have := HO.out; simp; omega))
  have HE : Hid (behP l s = (if doneE (rdDataS l (rdS l 4 s)).2 mk 134695760 false = 0 then rdDataR l (rdS l 4 s) zeroR else zeroR, ((rdDataS l (rdS l 4 s)).1, doneE (rdDataS l (rdS l 4 s)).2 mk 134695760 false))) := Lib.hid (by unfold behP; simp only []; rw [HMK.out])
  generalize doneE (rdDataS l (rdS l 4 s)).2 mk 134695760 false = er at HX4 HE ⊢
  generalize rdDataR l (rdS l 4 s) zeroR = r at HK7 HE
  clear h4 hg4 HX3 HK6 HMK
  by_cases he : er = 0
  · subst he
    rw [if_pos rfl] at HE
    go_wp2_with (first | (refine wpList_load_row rfl _ _ rfl _ rfl _ _ _ _ HK7.out Try.underlying27 rfl size_rec ?_) | (refine wpList_storeBlk rfl _ _ rfl rfl rfl HX4.out.2.2.1 rfl size_rec (Rec.one _) ?_; intro d0 dg))
    refine bodyPost_ret (results_cell_row (p := 2) rfl _ _ o2 _ _ _ _ rfl d0 Try.underlying27 rfl size_rec) rfl ?_
    rw [HE.out]
    exact ⟨rfl, HX4.out.fin dg⟩
  · have he' : (er == 0) = false := by simpa using he
    rw [if_neg he] at HE
    clear he
    go_wp2_with (first | (refine wpList_storeBlk rfl _ _ rfl rfl rfl HX4.out.2.2.1 rfl size_rec (Rec.one zeroR) ?_; intro d0 dg))
    refine bodyPost_ret (results_cell_row (p := 2) rfl _ _ o2 _ _ _ _ rfl d0 Try.underlying27 rfl size_rec) rfl ?_
    rw [HE.out]
    exact ⟨rfl, HX4.out.fin dg⟩
end Go.Proofs.Ytbknkahakmfhkaa
