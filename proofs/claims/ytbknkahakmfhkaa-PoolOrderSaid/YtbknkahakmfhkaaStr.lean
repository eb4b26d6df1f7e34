/- Bytes to strings. -/
import Derived.Test.YtbknkahakmfhkaaBuf
import Derived.Deep.Draws
namespace Go.Proofs.Ytbknkahakmfhkaa
open Go.RowKit
set_option linter.unusedVariables false
set_option linter.unusedSimpArgs false

def strOf (l : List UInt8) : ByteArray := ⟨l.toArray⟩
theorem strOf_toList (l : List UInt8) : (strOf l).toList = l := by
  exact ByteArray.toList_mk l
theorem push_fold (ns : List Int) : ∀ (s : ByteArray), ns.foldl (fun r n => r.push (UInt8.ofNat n.toNat)) s = ⟨s.data ++ (ns.map fun n => UInt8.ofNat n.toNat).toArray⟩ := by
  induction ns with
  | nil => intro s; simp
  | cons n ns ih =>
    intro s
    rw [List.foldl_cons, ih]
    congr 1
    simp [ByteArray.push]
theorem conv_str {P : Program} {T S e : TypeId} (hs : P.underlying T = some (.slice e)) (he : P.underlying e = some (.int .u8)) (hd : P.underlying S = some .string)
    {w : World} {a : Option Addr} {n : Nat} (c : Nat) {l : List UInt8} (hl : l.length = n) (hr : Rd w bE a l) :
    (convert T S (.slice a n c)).run P w = .ok (.string (strOf l)) w := by
  rw [run_convert_bytes_string w T S e a n c hs he hd]
  rcases hr with rfl | ⟨b, off, rfl, hc⟩
  · have : n = 0 := by simpa using hl.symm
    subst this
    cases a with
    | none => simp [Conv.bytesToString, strOf]; rfl
    | some ad =>
      have h0 : (loadCells ad 0).run P w = .ok (([] : List Int).map (Value.int .u8)).toArray w := by
        simpa using run_loadCells_list (P := P) w ad [] (fun j v hv => by simp at hv)
      rw [run_bytesToString w ad 0 c [] h0]; rfl
  · have hload : (loadCells ⟨b, off, none⟩ n).run P w = .ok ((l.map fun x => (x.toNat : Int)).map (Value.int .u8)).toArray w := by
      have := run_loadCells_list (P := P) w ⟨b, off, none⟩ ((l.map fun x => (x.toNat : Int)).map (Value.int .u8)) (fun j v hv => by
        rw [Addr.add_lit]
        simp only [List.map_map, List.getElem?_map] at hv
        obtain ⟨x, hx, rfl⟩ := Option.map_eq_some_iff.1 hv
        exact hc j x hx)
      simpa [hl] using this
    rw [run_bytesToString w _ n c _ hload, push_fold]
    congr 2
    simp [strOf, ByteArray.empty, ByteArray.emptyWithCapacity, Function.comp_def]
    rfl
theorem below_drew_iff {B : Nat} {w w' : World} : Below B w w'.drew ↔ Below B w w' := ⟨fun h => ⟨h.os, h.tape, h.output, h.size, h.block⟩, fun h => h.drew⟩
theorem below_drewN_iff {B n : Nat} {w w' : World} : Below B w (w'.drewN n) ↔ Below B w w' := ⟨fun h => ⟨h.os, h.tape, h.output, h.size, h.block⟩, fun h => ⟨h.os, h.tape, h.output, h.size, h.block⟩⟩
end Go.Proofs.Ytbknkahakmfhkaa
