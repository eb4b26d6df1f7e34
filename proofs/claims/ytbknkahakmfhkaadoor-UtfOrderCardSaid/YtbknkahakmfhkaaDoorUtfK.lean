/- The plain laws: a text's way there and back; the order. -/
import Derived.Test.YtbknkahakmfhkaaDoorUtfJ
namespace Go.Proofs.YtbknkahakmfhkaaDoor
open Go.RowKit
set_option linter.unusedVariables false
set_option linter.unusedSimpArgs false

theorem b8 (x : Int) (n : Nat) (h : x = (n : Int)) : x.toNat.toUInt8 = UInt8.ofNat n := by subst h; rfl
theorem enc_plain (r : Nat) : (Utf8.encode (r : Int)).data.toList = Lib.encodeRune (r : Int) := by
  unfold Lib.encodeRune
  by_cases hb : (55296 ≤ r ∧ r ≤ 57343) ∨ 1114111 < r
  · have v : Utf8.valid (r : Int) = false := by simp [Utf8.valid]; omega
    rw [Lib.encodeRuneZ_bad (by omega)]
    simp [Utf8.encode, v, Utf8.runeError]
  have v : Utf8.valid (r : Int) = true := by simp [Utf8.valid]; omega
  by_cases c1 : r < 128
  · rw [Lib.encodeRuneZ_one (by omega) (by omega)]; simp [Utf8.encode, v, c1]
  by_cases c2 : r < 2048
  · have e : (Utf8.encode (r : Int)).data.toList = [UInt8.ofNat (192 + r / 64), UInt8.ofNat (128 + r % 64)] := by simp [Utf8.encode, v, c1, c2]
    rw [Lib.encodeRuneZ_two (by omega) (by omega), e]
    simp only [List.map_cons, List.map_nil]
    rw [b8 (192 + (r : Int) / 64) (192 + r / 64) (by omega), b8 (128 + (r : Int) % 64) (128 + r % 64) (by omega)]
  by_cases c3 : r < 65536
  · have e : (Utf8.encode (r : Int)).data.toList = [UInt8.ofNat (224 + r / 4096), UInt8.ofNat (128 + r / 64 % 64), UInt8.ofNat (128 + r % 64)] := by simp [Utf8.encode, v, c1, c2, c3]
    rw [Lib.encodeRuneZ_three (by omega), e]
    simp only [List.map_cons, List.map_nil]
    rw [b8 (224 + (r : Int) / 4096) (224 + r / 4096) (by omega), b8 (128 + (r : Int) / 64 % 64) (128 + r / 64 % 64) (by omega), b8 (128 + (r : Int) % 64) (128 + r % 64) (by omega)]
  · have e : (Utf8.encode (r : Int)).data.toList = [UInt8.ofNat (240 + r / 262144), UInt8.ofNat (128 + r / 4096 % 64), UInt8.ofNat (128 + r / 64 % 64), UInt8.ofNat (128 + r % 64)] := by simp [Utf8.encode, v, c1, c2, c3]
    rw [Lib.encodeRuneZ_four (by omega) (by omega), e]
    simp only [List.map_cons, List.map_nil]
    rw [b8 (240 + (r : Int) / 262144) (240 + r / 262144) (by omega), b8 (128 + (r : Int) / 4096 % 64) (128 + r / 4096 % 64) (by omega), b8 (128 + (r : Int) / 64 % 64) (128 + r / 64 % 64) (by omega), b8 (128 + (r : Int) % 64) (128 + r % 64) (by omega)]
theorem fold_app : ∀ (ns : List Int) (s : ByteArray), (ns.foldl (fun r n => r ++ Utf8.encode n) s).data.toList = s.data.toList ++ (ns.foldl (fun r n => r ++ Utf8.encode n) ByteArray.empty).data.toList
  | [], s => by simp
  | n :: ns, s => by
    rw [List.foldl_cons, List.foldl_cons, fold_app ns (s ++ Utf8.encode n), fold_app ns (ByteArray.empty ++ Utf8.encode n)]
    simp
theorem rbS_cons (c : Nat) (b : List Nat) : (rbS (c :: b)).data.toList = Lib.encodeRune (c : Int) ++ (rbS b).data.toList := by
  unfold rbS runesBytes
  rw [List.map_cons, List.foldl_cons, fold_app, ← enc_plain]
  simp
theorem no_half (l : List UInt8) (hne : l ≠ []) (hv : ¬ ((Lib.decodeL l).1 = 65533 ∧ (Lib.decodeL l).2 = 1)) : ¬ (55296 ≤ (Lib.decodeL l).1 ∧ (Lib.decodeL l).1 ≤ 57343) := by
  intro h
  have he := Lib.encode_decode l hne hv
  have e : Lib.encodeRune ((Lib.decodeL l).1 : Int) = [239, 191, 189] := by
    unfold Lib.encodeRune
    rw [Lib.encodeRuneZ_bad (by omega)]; decide
  rw [e] at he
  have hl := congrArg List.length he
  rw [List.length_take] at hl
  have h0 : 2 < l.length := by simp at hl; omega
  have hm : 3 ≤ (Lib.decodeL l).2 := by simp at hl; omega
  have g : ∀ i (hi : i < 3), l[i]? = [(239 : UInt8), 191, 189][i]? := by
    intro i hi
    rw [he, List.getElem?_take, if_pos (by omega)]
  have g0 := g 0 (by omega)
  have g1 := g 1 (by omega)
  have g2 := g 2 (by omega)
  rw [List.getElem?_eq_getElem (by omega)] at g0 g1 g2
  simp at g0 g1 g2
  have := rep_good l h0 (by rw [g0]; rfl) (by rw [g1]; rfl) (by rw [g2]; rfl)
  rw [this] at h
  omega
theorem text_back : ∀ (n : Nat) (l : List UInt8), l.length ≤ n → Lib.validD l = true → (rbS (runesOf l)).data.toList = l ∧ ∀ c ∈ runesOf l, c ≤ 1114111 ∧ ¬ (55296 ≤ c ∧ c ≤ 57343)
  | _, [], _, _ => ⟨rfl, fun c hc => by simp [runesOf, runesL] at hc⟩
  | 0, b :: r, h, _ => by simp at h
  | n + 1, b :: r, h, hv => by
    have hne : b :: r ≠ [] := by simp
    rw [Lib.validD_step _ hne] at hv
    by_cases hb : (Lib.decodeL (b :: r)).1 = 65533 ∧ (Lib.decodeL (b :: r)).2 = 1
    · rw [if_pos hb] at hv; cases hv
    · rw [if_neg hb] at hv
      have h1 := Lib.decodeL_width (b :: r)
      have h2 := Lib.decodeL_rune (b :: r)
      obtain ⟨h4, h5⟩ := text_back n ((b :: r).drop (Lib.decodeL (b :: r)).2) (by rw [List.length_drop]; simp at h ⊢; omega) hv
      have h6 := Lib.encode_decode (b :: r) hne hb
      have h7 := no_half (b :: r) hne hb
      rw [runesOf_step hne, rbS_cons, h4, h6]
      refine ⟨List.take_append_drop _ _, fun c hc => ?_⟩
      rcases List.mem_cons.1 hc with rfl | hc
      · exact ⟨h2, h7⟩
      · exact h5 c hc
theorem pair_back : ∀ cs : List Nat, (∀ c ∈ cs, c ≤ 1114111 ∧ ¬ (55296 ≤ c ∧ c ≤ 57343)) → pairU (cs.flatMap uniR) = some cs
  | [], _ => rfl
  | c :: cs, h => by
    have ih := pair_back cs (fun x hx => h x (List.mem_cons_of_mem _ hx))
    have hc := h c (List.mem_cons_self ..)
    rw [List.flatMap_cons]
    by_cases h16 : c < 65536
    · rw [show uniR c = [c] from if_pos h16]
      show pairU (c :: cs.flatMap uniR) = _
      rw [pairU_one (by omega) (by omega), ih]; rfl
    · rw [show uniR c = [55296 + (c - 65536) / 1024, 56320 + (c - 65536) % 1024] from if_neg h16]
      show pairU ((55296 + (c - 65536) / 1024) :: (56320 + (c - 65536) % 1024) :: cs.flatMap uniR) = _
      rw [pairU_two (by omega) (by omega), ih]
      rw [Option.map_some, show 65536 + (55296 + (c - 65536) / 1024 - 55296) * 1024 + (56320 + (c - 65536) % 1024 - 56320) = c by omega]
/-- A text goes there and comes back. -/
theorem enc_dec {l : List UInt8} (h : Lib.validD l = true) : decOf (bytU (unisOf l)) = some (strOf l) := by
  obtain ⟨h1, h2⟩ := text_back l.length l (Nat.le_refl _) h
  unfold decOf
  rw [units_bytes _ (unisOf_lt l.length l (Nat.le_refl _)).1]
  show (pairU (unisOf l)).map rbS = _
  unfold unisOf
  rw [pair_back _ h2]
  show some (rbS (runesOf l)) = _
  congr 1
  apply ByteArray.ext
  apply Array.ext'
  rw [h1]; rfl
theorem lexU_self : ∀ x : List Nat, lexU x x = 0
  | [] => rfl
  | a :: x => by
    show (if a < a then -1 else if a < a then 1 else lexU x x) = 0
    rw [if_neg (by omega), if_neg (by omega), lexU_self x]
theorem lexU_swap : ∀ x y : List Nat, lexU y x = - lexU x y
  | [], [] => rfl
  | [], _ :: _ => rfl
  | _ :: _, [] => rfl
  | a :: x, b :: y => by
    show (if b < a then -1 else if a < b then 1 else lexU y x) = - (if a < b then -1 else if b < a then 1 else lexU x y)
    rw [lexU_swap x y]
    by_cases h1 : a < b
    · rw [if_neg (by omega), if_pos h1, if_pos h1]; rfl
    · by_cases h2 : b < a
      · rw [if_pos h2, if_neg h1, if_pos h2]
      · rw [if_neg h2, if_neg h1, if_neg h1, if_neg h2]
theorem lexU_zero : ∀ x y : List Nat, lexU x y = 0 → x = y
  | [], [], _ => rfl
  | [], _ :: _, h => absurd (show (-1 : Int) = 0 from h) (by decide)
  | _ :: _, [], h => absurd (show (1 : Int) = 0 from h) (by decide)
  | a :: x, b :: y, h => by
    have h : (if a < b then -1 else if b < a then 1 else lexU x y) = 0 := h
    by_cases h1 : a < b
    · rw [if_pos h1] at h; exact absurd h (by decide)
    · by_cases h2 : b < a
      · rw [if_neg h1, if_pos h2] at h; exact absurd h (by decide)
      · rw [if_neg h1, if_neg h2] at h
        rw [lexU_zero x y h, show a = b by omega]
theorem lexU_trans : ∀ x y z : List Nat, lexU x y < 0 → lexU y z < 0 → lexU x z < 0
  | [], _, [], h1, h2 => by
    rename_i y
    cases y with
    | nil => exact h1
    | cons b y => exact absurd (show (1 : Int) < 0 from h2) (by decide)
  | [], _, _ :: _, _, _ => show (-1 : Int) < 0 by decide
  | _ :: _, [], _, h1, _ => absurd (show (1 : Int) < 0 from h1) (by decide)
  | _ :: _, _ :: _, [], _, h2 => absurd (show (1 : Int) < 0 from h2) (by decide)
  | a :: x, b :: y, c :: z, h1, h2 => by
    have h1 : (if a < b then -1 else if b < a then 1 else lexU x y) < 0 := h1
    have h2 : (if b < c then -1 else if c < b then 1 else lexU y z) < 0 := h2
    show (if a < c then -1 else if c < a then 1 else lexU x z) < 0
    by_cases g1 : a < b
    · by_cases g2 : b < c
      · rw [if_pos (by omega)]; decide
      · by_cases g3 : c < b
        · rw [if_neg g2, if_pos g3] at h2; exact absurd h2 (by decide)
        · rw [if_pos (by omega)]; decide
    · by_cases g1' : b < a
      · rw [if_neg g1, if_pos g1'] at h1; exact absurd h1 (by decide)
      · rw [if_neg g1, if_neg g1'] at h1
        by_cases g2 : b < c
        · rw [if_pos (by omega)]; decide
        · by_cases g3 : c < b
          · rw [if_neg g2, if_pos g3] at h2; exact absurd h2 (by decide)
          · rw [if_neg g2, if_neg g3] at h2
            rw [if_neg (by omega), if_neg (by omega)]
            exact lexU_trans x y z h1 h2
theorem less_irr (l : List UInt8) : lessU l l = false := by
  unfold lessU
  cases unitsOf l with
  | some x => simp [lexU_self]
  | none =>
    show Op.bytesLess l l = false
    induction l with
    | nil => rfl
    | cons a l ih => unfold Op.bytesLess; simp [ih]
/-- Rows that are right stand in an order. -/
theorem less_order (a b c : List UInt8) (ha : (unitsOf a).isSome = true) (hb : (unitsOf b).isSome = true) (hc : (unitsOf c).isSome = true) :
  (lessU a b || ((lessU b a == !(a == b)) && ((!lessU b a || !lessU a c) || lessU b c))) = true := by
  obtain ⟨x, hx⟩ := Option.isSome_iff_exists.1 ha
  obtain ⟨y, hy⟩ := Option.isSome_iff_exists.1 hb
  obtain ⟨z, hz⟩ := Option.isSome_iff_exists.1 hc
  rw [lessU_some hx hy, lessU_some hy hx, lessU_some hx hz, lessU_some hy hz]
  have hab : a = b ↔ x = y := by
    constructor
    · rintro rfl; rw [hx] at hy; exact Option.some.inj hy
    · rintro rfl; rw [← bytes_units a.length a x (Nat.le_refl _) hx, ← bytes_units b.length b x (Nat.le_refl _) hy]
  have hsw := lexU_swap x y
  by_cases h1 : lexU x y < 0
  · simp [h1]
  · by_cases h2 : lexU y x < 0
    · have hne : a ≠ b := by
        intro h
        have := hab.1 h
        subst this
        rw [lexU_self] at h2
        exact absurd h2 (by decide)
      by_cases h3 : lexU x z < 0
      · have h4 := lexU_trans y x z h2 h3
        simp [h2, h3, h4, hne]
      · simp [h2, h3, hne]
    · have he : a = b := hab.2 (lexU_zero x y (by omega))
      simp [h2, he]
end Go.Proofs.YtbknkahakmfhkaaDoor
