/- Proved: UtfUnits returns true for every input: any units' bytes are the document's, and tell them. The card: the two listed tables are tied to the program's text. -/
import Derived.Test.YtbknkahakmfhkaaDoorUtfP
import Derived.Test.YtbknkahakmfhkaaDoorUtfQ
import Derived.Test.YtbknkahakmfhkaaDoorTie
import Derived.Test.YtbknkahakmfhkaaDoorCards
import Derived.SevenTiedAt
namespace Go.Proofs.YtbknkahakmfhkaaDoor
open Go.ChangeShapes Go.WideShapes Go.ChangeAt Go.RowKit
set_option linter.unusedVariables false
set_option linter.unusedSimpArgs false

theorem rd_nat {w : World} {a : Option Addr} {l : List Int} (hz : ∀ x ∈ l, 0 ≤ x ∧ x < 65536) (hr : Rd w (fun x => Value.int .u16 x) a l) : Rd w hE a (l.map Int.toNat) := by
  rcases hr with h | ⟨b, off, h, hc⟩
  · exact .inl (by rw [h]; rfl)
  · refine .inr ⟨b, off, h, fun j y hj => ?_⟩
    rw [List.getElem?_map, Option.map_eq_some_iff] at hj
    obtain ⟨x, hx, rfl⟩ := hj
    have := hz x (List.mem_of_getElem? hx)
    rw [hc j x hx]
    show some (Value.int .u16 x) = some (Value.int .u16 ((x.toNat : Nat) : Int))
    rw [Int.toNat_of_nonneg this.1]
theorem lt_nat {l : List Int} (hz : ∀ x ∈ l, 0 ≤ x ∧ x < 65536) : ∀ x ∈ l.map Int.toNat, x < 65536 := by
  intro x hx
  obtain ⟨y, hy, rfl⟩ := List.mem_map.1 hx
  have := hz y hy
  omega
set_option maxRecDepth 100000 in
theorem liftedUtfUnits (os : Os) (started : os.Started) (H : Type) (enc : TypeId × Value → H) :
    ReturnsInHanded {} Tryd.checked os 4 .any (fun w args => (Rows.utfUnitsSpec.pre enc Tryd.prog Tryd.f4 Rows.utfUnitsRow.domain false w args ∧ laidMetH Tryd.prog laidRow w) ∧ sizedMet enc Tryd.prog Tryd.f4 (OpenSpec.ofChange Rows.utfUnitsSpec) false w args)
      (Rows.utfUnitsSpec.post enc Tryd.prog Tryd.f4 false true false false) := by
  refine returnsInHanded_of_change_and (C := Tryd.checked) (X := fun w _ => laidMetH Tryd.prog laidRow w) (fun _ _ _ hh h => h.of_heap hh) ownKnobT started (by kernel_rfl) Tryd.func4
    (ChangeSpec.witness_shaped (enc := enc) (C := Tryd.checked) (os := os) (X := fun w _ => laidMetH Tryd.prog laidRow w) false (World.laidAll Tryd.prog os laidRow) #[.slice none 0 0] 8 (World.laidAll_os _ _ _)
      (World.shaped_of_ZipB (by kernel_rfl) (by kernel_rfl)) (by kernel_rfl) (by kernel_rfl) (by kernel_rfl)
      (laid_world os _)) ?_
  intro W base args ds gs before hval0 hW hcnd _ hL _
  have hval : ∀ (j : Nat) t v, Tryd.f4.params[j]? = some t → args[j]? = some v → Value.okWide Tryd.prog W .any base t v := hval0
  have hW' := hW
  obtain ⟨p, q, hA0, hV, rfl, hfz, hnd⟩ := hW
  have hA : DataW.TrodAll enc Tryd.prog W 0 (fun _ => true) true Tryd.f4.params.toList args.toList ds p := hA0
  rw [Tryd.params4] at hA hval
  have HT : Hid (Tabs W) := Lib.hid (tabs_of hL)
  obtain ⟨v0, vs0, d0, ds0, p0, q0, hargs, rfl, rfl, h0, r0⟩ := trodAll_cons hA
  obtain ⟨rfl, rfl, rfl⟩ := trodAll_nil r0
  obtain rfl : args = #[v0] := by cases args; simp_all
  obtain ⟨rfl, rfl⟩ := trodVars_none hV
  obtain ⟨a0, n0, c0, rfl⟩ := okWide_slice Tryd.underlying23 (hval 0 23 v0 rfl rfl)
  have k0 := h0
  have lt0 : ∀ x ∈ p0, x.block < W.heap.size := by obtain ⟨m, hm⟩ := k0; exact DataW.trod_lt m _ _ _ hm
  obtain ⟨l0, hl0, hnc0, hcm0, hr0, hw0⟩ := openIntsL Tryd.underlying23 Tryd.underlying27 (by kernel_rfl) h0
  have hz0 : ∀ x ∈ l0, 0 ≤ x ∧ x < 65536 := fun x hx => wf_u16R (hw0 x hx)
  clear hA0 hval0
  refine (unitsLaw_any a0 n0 c0 (l0.map Int.toNat) W (by rw [List.length_map]; exact hl0) (rd_nat hz0 hr0) (lt_nat hz0) HT).mono fun e W' ⟨he, bel⟩ => ?_
  subst he
  exact ⟨_, rfl, _, _, _, [], _, [], hW', trodAll_mk1 (shut_bool Tryd.underlying4 _), (trodAll_cons_mk (Below.trod laidOutT (by kernel_rfl) (of_decide_eq_true (by kernel_rfl)) k0 bel lt0) trodAll_mk0), rfl, bel.frame _, fun h => by cases h⟩

theorem overUtfUnits : Rows.utfUnitsRow.holds Tryd.pinned (OpenSpec.ofChange Rows.utfUnitsSpec) :=
  OpenClaim.holds_of_wide 4 Tryd.f4 rfl rfl rfl rfl rfl rfl rfl ⟨rfl, rfl, rfl, rfl, rfl⟩ rfl rfl rfl rfl rfl (by kernel_rfl) Tryd.func4 (by kernel_rfl)
    (of_decide_eq_true (by kernel_rfl)) (by unfold Func.isWrapper; first | (rw [if_pos (by decide +kernel)]; kernel_rfl) | (rw [if_neg (by decide +kernel)]; exact ⟨rfl, rfl⟩))
    (fun os started H enc _ => liftedUtfUnits os started H enc)

theorem holdsUtfUnits : Rows.UtfUnitsCardSaid :=
  Claim7.holds_tied_plain_at .later [] [.data, .pinned] true (true, "42c3046862e525f09ca81b7a801f4c7c55ea23697c91a6bf3695da55051b5b6e") false overUtfUnits (fun _ h => by cases h) (by kernel_rfl) (fun _ h => by cases h) utfUnits_row_tie rfl ⟨rfl, rfl⟩ (by kernel_rfl) rfl
    (fun f fn hf hfn => by
      obtain rfl : f = 4 := Option.some.inj ((show Tryd.prog.funcNamed "packsaddle/packsaddlelaw15.UtfUnits" = some 4 by kernel_rfl).symm.trans hf) |>.symm
      obtain rfl : fn = Tryd.f4 := (Option.some.inj (Tryd.func4.symm.trans hfn)).symm
      exact ⟨by kernel_rfl, fun j t ht => by
        rw [Tryd.params4] at ht
        have hm : t ∈ [23] := by simpa using Array.mem_of_getElem? ht
        have hall : ([23].all fun u => !Tryd.prog.wantsStandIn u) = true := by kernel_rfl
        exact (show Tryd.prog.wantsStandIn t = false by simpa using List.all_eq_true.1 hall t hm)⟩)
    (by kernel_rfl)
#print axioms holdsUtfUnits
end Go.Proofs.YtbknkahakmfhkaaDoor
