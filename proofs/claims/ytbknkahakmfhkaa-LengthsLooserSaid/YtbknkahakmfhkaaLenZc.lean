/- symMergeCmpFunc at packs: the whole. -/
import Derived.Test.YtbknkahakmfhkaaLenZb
import Derived.Deep.DeepCutAuto
namespace Go.Proofs.Ytbknkahakmfhkaa
open Go.Shelf Go.RowKit Go.Lib Go.Sort
set_option linter.unusedVariables false
set_option linter.unusedSimpArgs false

def SymOk (w0 : World) (blk : Nat) (d0 : Array Pk) (n cap N : Nat) : Prop :=
  ∀ (a m b : Nat) (W : World) (X u v Y : List Pk), b - a ≤ N → SWL w0 blk (X ++ u ++ v ++ Y) W → (X ++ u ++ v ++ Y).length = n → a = X.length → m = a + u.length → b = m + v.length → 0 < u.length → 0 < v.length → u.Pairwise (fun p q => leP p q = true) → v.Pairwise (fun p q => leP p q = true) →
    Calls Try.prog 123 #[.slice (some ⟨blk, 0, none⟩) n cap, .int .i64 a, .int .i64 m, .int .i64 b, .func (.func 75) #[] #[]] W fun e w' => e = .returned (.tuple #[]) ∧ SWL w0 blk (X ++ (u.merge v leP ++ Y)) w'
theorem pw_le {u : List Pk} (h : u.Pairwise (fun p q => leP p q = true)) {s t : Nat} {e f : Pk} (hst : s ≤ t) (he : u[s]? = some e) (hf : u[t]? = some f) : e.often ≤ f.often := by
  obtain ⟨h1, e1⟩ := List.getElem?_eq_some_iff.1 he
  obtain ⟨h2, e2⟩ := List.getElem?_eq_some_iff.1 hf
  by_cases hs : s = t
  · subst hs
    rw [he] at hf
    have : e = f := by simpa using hf
    rw [this]; exact Int.le_refl _
  · have := (List.pairwise_iff_getElem.1 h) s t h1 h2 (by omega)
    rw [e1, e2] at this
    simpa [leA] using this
/-- The parting that the search finds: what is merged in two parts is merged. -/
theorem sym_part {u v : List Pk} (hu : u.Pairwise (fun p q => leP p q = true)) (hv : v.Pairwise (fun p q => leP p q = true)) (s e : Nat) (hs : s ≤ u.length) (he : e ≤ v.length)
    (h1 : s = 0 ∨ e = v.length ∨ ∃ x y, u[s - 1]? = some x ∧ v[e]? = some y ∧ x.often ≤ y.often)
    (h2 : s = u.length ∨ e = 0 ∨ ∃ x y, u[s]? = some x ∧ v[e - 1]? = some y ∧ y.often < x.often) :
    u.merge v leP = (u.take s).merge (v.take e) leP ++ (u.drop s).merge (v.drop e) leP := by
  have := merge_split leP (u.take s) (u.drop s) (v.take e) (v.drop e) ?_ ?_
  · rwa [List.take_append_drop, List.take_append_drop] at this
  · intro x hx y hy
    obtain ⟨i, hi, hix⟩ := List.getElem_of_mem hx
    obtain ⟨j, hj, hjy⟩ := List.getElem_of_mem hy
    rw [List.length_take] at hi
    rw [List.length_drop] at hj
    rw [List.getElem_take] at hix
    rw [List.getElem_drop] at hjy
    rcases h1 with h1 | h1 | ⟨p, q, h3, h4, h5⟩
    · omega
    · omega
    · have a1 := pw_le hu (show i ≤ s - 1 by omega) (e := x) (by rw [← hix]; exact List.getElem?_eq_getElem _) h3
      have a2 := pw_le hv (show e ≤ e + j by omega) (f := y) h4 (by rw [← hjy]; exact List.getElem?_eq_getElem _)
      exact decide_eq_true (by show x.often ≤ y.often; omega)
  · intro y hy x hx
    obtain ⟨i, hi, hix⟩ := List.getElem_of_mem hx
    obtain ⟨j, hj, hjy⟩ := List.getElem_of_mem hy
    rw [List.length_drop] at hi
    rw [List.length_take] at hj
    rw [List.getElem_drop] at hix
    rw [List.getElem_take] at hjy
    rcases h2 with h1 | h1 | ⟨p, q, h3, h4, h5⟩
    · omega
    · omega
    · have a1 := pw_le hu (show s ≤ s + i by omega) (f := x) h3 (by rw [← hix]; exact List.getElem?_eq_getElem _)
      have a2 := pw_le hv (show j ≤ e - 1 by omega) (e := y) (by rw [← hjy]; exact List.getElem?_eq_getElem _) h4
      exact decide_eq_false (by show ¬ x.often ≤ y.often; omega)
theorem pw_take {u : List Pk} (h : u.Pairwise (fun p q => leP p q = true)) (k : Nat) : (u.take k).Pairwise (fun p q => leP p q = true) := h.sublist (List.take_sublist k u)
theorem pw_drop {u : List Pk} (h : u.Pairwise (fun p q => leP p q = true)) (k : Nat) : (u.drop k).Pairwise (fun p q => leP p q = true) := h.sublist (List.drop_sublist k u)
set_option maxHeartbeats 8000000 in
set_option maxRecDepth 1000000 in
theorem sym_gen_any (blk cap n N : Nat) (d0 : Array Pk) (w0 : World) (R : RowPk w0 blk d0) (h0 : d0.size = n) (hsz : n < 1000000) (IH : SymOk w0 blk d0 n cap N) (a m b : Nat) (W : World) (X u v Y : List Pk) (hN : b - a ≤ N + 1) (S : SWL w0 blk (X ++ u ++ v ++ Y) W) (hn : (X ++ u ++ v ++ Y).length = n) (ha : a = X.length) (hm : m = a + u.length) (hb : b = m + v.length) (hu2 : 2 ≤ u.length) (hv2 : 2 ≤ v.length) (hu : u.Pairwise (fun p q => leP p q = true)) (hv : v.Pairwise (fun p q => leP p q = true)) :
    Calls Try.prog 123 #[.slice (some ⟨blk, 0, none⟩) n cap, .int .i64 a, .int .i64 m, .int .i64 b, .func (.func 75) #[] #[]] W fun e w' => e = .returned (.tuple #[]) ∧ SWL w0 blk (X ++ (u.merge v leP ++ Y)) w' := by
  have HR : Hid (RowPk w0 blk d0 ∧ d0.size = n) := Lib.hid ⟨R, h0⟩
  have HS : Hid (SWL w0 blk (X ++ u ++ v ++ Y) W) := Lib.hid S
  have HN : Hid ((X ++ u ++ v ++ Y).length = n ∧ a = X.length ∧ m = a + u.length ∧ b = m + v.length) := Lib.hid ⟨hn, ha, hm, hb⟩
  have HU := Lib.hid (And.intro hu hv)
  have HIH := Lib.hid IH
  have hl : (X ++ u ++ v ++ Y).length = X.length + u.length + v.length + Y.length := by simp only [List.length_append]
  have hmb : a + 2 ≤ m ∧ m + 2 ≤ b ∧ b ≤ n := by omega
  have g1 : ((m : Int) - (a : Int) == 1) = false := by simp; omega
  have g1' : ¬ (m : Int) - (a : Int) = 1 := by omega
  have g2 : ((b : Int) - (m : Int) == 1) = false := by simp; omega
  have g2' : ¬ (b : Int) - (m : Int) = 1 := by omega
  obtain ⟨M, gM⟩ : ∃ M : Nat, ((a : Int) + (b : Int)) / 2 = (M : Int) := ⟨((a + b) / 2 : Nat), by omega⟩
  have hM : a < M ∧ M < b := by omega
  obtain ⟨s0, r0, hs0⟩ : ∃ s0 r0 : Nat, Hid ((M < m ∧ s0 + b = M + m ∧ r0 = M) ∨ (¬ M < m ∧ s0 = a ∧ r0 = m)) := by
    by_cases h : M < m
    · exact ⟨M + m - b, M, Lib.hid (.inl ⟨h, by omega, rfl⟩)⟩
    · exact ⟨a, m, Lib.hid (.inr ⟨h, rfl, rfl⟩)⟩
  have hsr : a ≤ s0 ∧ s0 ≤ r0 ∧ r0 ≤ m ∧ r0 ≤ M ∧ M + m ≤ s0 + b := by rcases hs0.out with h | h <;> omega
  have hsr2 : Hid ((s0 = a ∨ s0 + b = M + m) ∧ (r0 = m ∨ r0 = M)) := Lib.hid (by rcases hs0.out with h | h <;> omega)
  clear R h0 S hn ha hm hb hu hv hl hu2 hv2 IH
  have mixed : Try.prog.follows .mixedOrders = true := by kernel_rfl
  have eg := entersO
  by_cases hmM : M < m
  all_goals
    try have gs : (M : Int) + (m : Int) - (b : Int) = (s0 : Int) := by rcases hs0.out with h | h <;> omega
    go_enter Try.func123, Try.ntmps123
    go_wp2_with fail
    go_loopw [20, 21] (fun x20 x21 wr => ∃ s r : Nat, s0 ≤ s ∧ s ≤ r ∧ r ≤ r0 ∧ x20 = .int .i64 s ∧ x21 = .int .i64 r ∧ Hid (∀ (c : Nat) (x y : Pk), s0 ≤ c → c < r0 → u[c - a]? = some x → v[M - 1 - c]? = some y → (c < s → x.often ≤ y.often) ∧ (r ≤ c → y.often < x.often)) ∧ Hid (SWL w0 blk (X ++ u ++ v ++ Y) wr)) (fun x20 x21 _ => (intOf x21).toNat - (intOf x20).toNat)
    case atStart => exact ⟨s0, r0, Nat.le_refl _, hsr.2.1, Nat.le_refl _, by first | rfl | (have := hs0.out; congr 1; omega), by first | rfl | (have := hs0.out; congr 1; omega), Lib.hid (fun c x y h1 h2 _ _ => ⟨fun h => by omega, fun h => by omega⟩), HS⟩
    case round =>
      clear HS
      obtain ⟨s, r, hs1, hs2, hs3, rfl, rfl, HB, HS⟩ := hrel
      by_cases hlt : s < r
      · obtain ⟨h, gh⟩ : ∃ h : Nat, ((s : Int) + (r : Int)) / 2 = (h : Int) := ⟨((s + r) / 2 : Nat), by omega⟩
        have hih : s ≤ h ∧ h < r := by omega
        obtain ⟨q, hq⟩ : ∃ q : Nat, Hid (q + h + 1 = M + m) := ⟨M + m - 1 - h, Lib.hid (by omega)⟩
        have gq : (M : Int) + (m : Int) - 1 - (h : Int) = (q : Int) := by have := hq.out; omega
        have gqw : IntKind.i64.wrap (q : Int) = (q : Int) := by have := hq.out; rw [IntKind.wrap_i64]; omega
        have hhn : (h : Int) < (n : Int) := by omega
        have hqn : (q : Int) < (n : Int) := by have := hq.out; omega
        have hqmb : Hid (m ≤ q ∧ q < b ∧ q - m = M - 1 - h) := Lib.hid (by have := hq.out; omega)
        obtain ⟨x, hx⟩ : ∃ x, u[h - a]? = some x := ⟨u[h - a]'(by have := HN.out.2.2.1; omega), List.getElem?_eq_getElem _⟩
        obtain ⟨y, hy⟩ : ∃ y, v[M - 1 - h]? = some y := ⟨v[M - 1 - h]'(by have := HN.out.2.2.2; have := hqmb.out; omega), List.getElem?_eq_getElem _⟩
        have hLh : (X ++ u ++ v ++ Y)[h]? = some x := by
          have h1 := HN.out.2.1; have h2 := HN.out.2.2.1
          have h3 := (List.getElem?_eq_some_iff.1 hx).1
          rw [List.append_assoc, List.append_assoc, List.getElem?_append_right (by omega), List.getElem?_append_left (by omega), ← h1]
          exact hx
        have hLq : (X ++ u ++ v ++ Y)[q]? = some y := by
          have h1 := HN.out.2.1; have h2 := HN.out.2.2.1
          have h3 := (List.getElem?_eq_some_iff.1 hy).1
          have h4 := hqmb.out
          rw [List.append_assoc, List.getElem?_append_right (by rw [List.length_append]; omega), List.getElem?_append_left (by rw [List.length_append]; omega), show q - (X ++ u).length = M - 1 - h by rw [List.length_append]; omega]
          exact hy
        obtain ⟨hbk, c1, c2, -, -⟩ := swl_get HR.out.1 HR.out.2 HN.out.1 HS.out h x hLh
        obtain ⟨-, c3, c4, -, -⟩ := swl_get HR.out.1 HR.out.2 HN.out.1 HS.out q y hLq
        have k1 := cell_grown (w := wr) hbk c1
        have k2 := cell_grown (w := wr) (a := ⟨blk, h * 2 + 1, none⟩) hbk c2
        have k3 := cell_grown (w := wr) (a := ⟨blk, q * 2, none⟩) hbk c3
        have k4 := cell_grown (w := wr) (a := ⟨blk, q * 2 + 1, none⟩) hbk c4
        have hc := order_grown y x wr
        have hsg := sgn_lt y.often x.often
        generalize sgnI y.often x.often = sg at hc hsg
        have HX : Hid (∀ (c : Nat) (x' y' : Pk), s0 ≤ c → c < r0 → u[c - a]? = some x' → v[M - 1 - c]? = some y' → (c ≤ h → x.often ≤ y.often → x'.often ≤ y'.often) ∧ (h ≤ c → y.often < x.often → y'.often < x'.often)) := Lib.hid (fun c x' y' h1 h2 h3 h4 => by
          refine ⟨fun h5 h6 => ?_, fun h5 h6 => ?_⟩
          · have a1 := pw_le HU.out.1 (show c - a ≤ h - a by omega) h3 hx
            have a2 := pw_le HU.out.2 (show M - 1 - h ≤ M - 1 - c by omega) hy h4
            omega
          · have a1 := pw_le HU.out.1 (show h - a ≤ c - a by omega) hx h3
            have a2 := pw_le HU.out.2 (show M - 1 - c ≤ M - 1 - h by omega) h4 hy
            omega)
        clear hx hy hLh hLq c1 c2 c3 c4 hbk
        by_cases hcm : y.often < x.often
        · have hd : sg < 0 := hsg.2 hcm
          have hd2 : decide (sg < 0) = true := decide_eq_true hd
          have HC := Lib.hid hcm
          clear hsg hcm
          go_wp2_with fail
          go_quiet_grown (first | (go_at_fn 75; refine Calls.grown_of (hc _ _)))
          have S2 : Hid (SWL w0 blk (X ++ u ++ v ++ Y) (grow (wr.drewN nq) osq)) := Lib.hid (swl_grown HS.out nq osq)
          clear k1 k2 k3 k4 hc HS
          generalize grow (wr.drewN nq) osq = w2 at S2 ⊢
          go_wp2
          go_roundw
          case rel => exact ⟨s, h, hs1, by omega, by omega, rfl, rfl, Lib.hid (fun c x' y' h1 h2 h3 h4 => ⟨fun h5 => (HB.out c x' y' h1 h2 h3 h4).1 h5, fun h5 => (HX.out c x' y' h1 h2 h3 h4).2 h5 HC.out⟩), S2⟩
          case measure => simp [intOf] <;> omega
        · have hd : ¬ sg < 0 := fun hh => hcm (hsg.1 hh)
          have hd2 : decide (sg < 0) = false := decide_eq_false hd
          have hd3 : 0 ≤ sg := by omega
          have HC := Lib.hid (Int.not_lt.1 hcm)
          clear hsg hcm
          go_wp2_with fail
          go_quiet_grown (first | (go_at_fn 75; refine Calls.grown_of (hc _ _)))
          have S2 : Hid (SWL w0 blk (X ++ u ++ v ++ Y) (grow (wr.drewN nq) osq)) := Lib.hid (swl_grown HS.out nq osq)
          clear k1 k2 k3 k4 hc HS
          generalize grow (wr.drewN nq) osq = w2 at S2 ⊢
          go_wp2
          go_roundw
          case rel => exact ⟨h + 1, r, by omega, by omega, hs3, by go_num, rfl, Lib.hid (fun c x' y' h1 h2 h3 h4 => ⟨fun h5 => (HX.out c x' y' h1 h2 h3 h4).1 (by omega) HC.out, fun h5 => (HB.out c x' y' h1 h2 h3 h4).2 h5⟩), S2⟩
          case measure => simp [intOf] <;> omega
      · have hsr' : s = r := by omega
        subst hsr'
        obtain ⟨e, he⟩ : ∃ e : Nat, Hid (e + s = M + m) := ⟨M + m - s, Lib.hid (by omega)⟩
        have ge : (M : Int) + (m : Int) - (s : Int) = (e : Int) := by have := he.out; omega
        have heb : m ≤ e ∧ e ≤ b ∧ M ≤ e := by have := he.out; omega
        have HPART : Hid (u.merge v leP = (u.take (s - a)).merge (v.take (e - m)) leP ++ (u.drop (s - a)).merge (v.drop (e - m)) leP) := Lib.hid (by
          have h1 := HN.out.2.2.1; have h2 := HN.out.2.2.2; have h3 := hsr2.out; have h4 := he.out
          refine sym_part HU.out.1 HU.out.2 (s - a) (e - m) (by omega) (by omega) ?_ ?_
          · by_cases hss : s = s0
            · rcases h3.1 with h | h
              · exact .inl (by omega)
              · exact .inr (.inl (by omega))
            · obtain ⟨x, hx⟩ : ∃ x, u[s - 1 - a]? = some x := ⟨u[s - 1 - a]'(by omega), List.getElem?_eq_getElem _⟩
              obtain ⟨y, hy⟩ : ∃ y, v[M - 1 - (s - 1)]? = some y := ⟨v[M - 1 - (s - 1)]'(by omega), List.getElem?_eq_getElem _⟩
              refine .inr (.inr ⟨x, y, ?_, ?_, (HB.out (s - 1) x y (by omega) (by omega) hx hy).1 (by omega)⟩)
              · rw [show s - a - 1 = s - 1 - a by omega]; exact hx
              · rw [show e - m = M - 1 - (s - 1) by omega]; exact hy
          · by_cases hss : s = r0
            · rcases h3.2 with h | h
              · exact .inl (by omega)
              · exact .inr (.inl (by omega))
            · obtain ⟨x, hx⟩ : ∃ x, u[s - a]? = some x := ⟨u[s - a]'(by omega), List.getElem?_eq_getElem _⟩
              obtain ⟨y, hy⟩ : ∃ y, v[M - 1 - s]? = some y := ⟨v[M - 1 - s]'(by omega), List.getElem?_eq_getElem _⟩
              refine .inr (.inr ⟨x, y, hx, ?_, (HB.out s x y (by omega) (by omega) hx hy).2 (Nat.le_refl _)⟩)
              rw [show e - m - 1 = M - 1 - s by omega]; exact hy)
        obtain ⟨A1, A2, B1, B2, hAB⟩ : ∃ A1 A2 B1 B2, Hid (A1 = u.take (s - a) ∧ A2 = u.drop (s - a) ∧ B1 = v.take (e - m) ∧ B2 = v.drop (e - m)) := ⟨_, _, _, _, Lib.hid ⟨rfl, rfl, rfl, rfl⟩⟩
        have HL : Hid (X.length = a ∧ A1.length + a = s ∧ A2.length + s = m ∧ B1.length + m = e ∧ B2.length + e = b) := Lib.hid (by
          obtain ⟨rfl, rfl, rfl, rfl⟩ := hAB.out
          have h1 := HN.out.2.1; have h2 := HN.out.2.2.1; have h3 := HN.out.2.2.2
          simp only [List.length_take, List.length_drop]
          omega)
        have HP : Hid (A1.Pairwise (fun p q => leP p q = true) ∧ A2.Pairwise (fun p q => leP p q = true) ∧ B1.Pairwise (fun p q => leP p q = true) ∧ B2.Pairwise (fun p q => leP p q = true)) := Lib.hid (by
          obtain ⟨rfl, rfl, rfl, rfl⟩ := hAB.out
          exact ⟨pw_take HU.out.1 _, pw_drop HU.out.1 _, pw_take HU.out.2 _, pw_drop HU.out.2 _⟩)
        have HS1 : Hid (SWL w0 blk (X ++ A1 ++ A2 ++ B1 ++ B2 ++ Y) wr) := Lib.hid (by
          obtain ⟨rfl, rfl, rfl, rfl⟩ := hAB.out
          have h1 := HS.out
          rw [← List.take_append_drop (s - a) u, ← List.take_append_drop (e - m) v] at h1
          simpa only [List.append_assoc] using h1)
        have HLn : Hid (b + Y.length = n) := Lib.hid (by
          have h1 := HN.out.1
          simp only [List.length_append] at h1
          have h2 := HN.out.2.1; have h3 := HN.out.2.2.1; have h4 := HN.out.2.2.2
          omega)
        have HPT : Hid (u.merge v leP = A1.merge B1 leP ++ A2.merge B2 leP) := Lib.hid (by
          obtain ⟨rfl, rfl, rfl, rfl⟩ := hAB.out
          exact HPART.out)
        clear HB HS HPART hAB
        by_cases hsM : s = M
        · have HB1 : Hid (B1 = []) := Lib.hid (List.eq_nil_of_length_eq_zero (by have h1 := HL.out; have h2 := he.out; omega))
          have HS3 : Hid (SWL w0 blk (X ++ A1.merge B1 leP ++ A2 ++ B2 ++ Y) wr) := Lib.hid (by
            have h1 := HS1.out
            rw [HB1.out] at h1 ⊢
            rw [List.merge_right]
            simpa only [List.append_assoc, List.nil_append] using h1)
          have t1 : ¬ m < e := by have := he.out; omega
          have t2 : ¬ s < M := by omega
          have HsM := Lib.hid hsM
          have hsm2 : s ≤ M := by omega
          have hsm3 : M ≤ s := by omega
          clear hsM
          by_cases hsm : s < m
          · have t3 : M < e := by have := he.out; omega
            have t4 : e < b := by have := he.out; omega
            by_cases has : a < s
            · skip
              go_wp2_with fail
              refine (HIH.out M e b wr (X ++ A1.merge B1 leP) A2 B2 Y (by omega) (by have := HS3.out; simpa only [List.append_assoc] using this) (by have h1 := HL.out; have h2 := HLn.out; simp only [List.length_append, List.length_merge]; omega) (by have h1 := HL.out; have h2 := he.out; simp only [List.length_append, List.length_merge]; omega) (by have h1 := HL.out; have h2 := he.out; omega) (by have h1 := HL.out; omega) (by have h1 := HL.out; omega) (by have h1 := HL.out; omega) HP.out.2.1 HP.out.2.2.2).mono ?_
              rintro e1 w2 ⟨rfl, h⟩
              have HF : Hid (SWL w0 blk (X ++ (u.merge v leP ++ Y)) w2) := Lib.hid (by rw [HPT.out]; simpa only [List.append_assoc] using h)
              clear h
              go_wp2
              go_end0
              exact ⟨rfl, HF.out⟩
            · skip
              go_wp2_with fail
              refine (HIH.out M e b wr (X ++ A1.merge B1 leP) A2 B2 Y (by omega) (by have := HS3.out; simpa only [List.append_assoc] using this) (by have h1 := HL.out; have h2 := HLn.out; simp only [List.length_append, List.length_merge]; omega) (by have h1 := HL.out; have h2 := he.out; simp only [List.length_append, List.length_merge]; omega) (by have h1 := HL.out; have h2 := he.out; omega) (by have h1 := HL.out; omega) (by have h1 := HL.out; omega) (by have h1 := HL.out; omega) HP.out.2.1 HP.out.2.2.2).mono ?_
              rintro e1 w2 ⟨rfl, h⟩
              have HF : Hid (SWL w0 blk (X ++ (u.merge v leP ++ Y)) w2) := Lib.hid (by rw [HPT.out]; simpa only [List.append_assoc] using h)
              clear h
              go_wp2
              go_end0
              exact ⟨rfl, HF.out⟩
          · have t3 : ¬ M < e := by have := he.out; omega
            have HA2 : Hid (A2 = []) := Lib.hid (List.eq_nil_of_length_eq_zero (by have h1 := HL.out; omega))
            have HB2 : Hid (SWL w0 blk (X ++ (u.merge v leP ++ Y)) wr) := Lib.hid (by
              have h1 := HS3.out
              rw [HPT.out]
              rw [HA2.out] at h1 ⊢
              rw [List.nil_merge]
              simpa only [List.append_assoc, List.nil_append] using h1)
            by_cases has : a < s
            · skip
              go_wp2
              go_end0
              exact ⟨rfl, HB2.out⟩
            · skip
              go_wp2
              go_end0
              exact ⟨rfl, HB2.out⟩
        · have hsM2 : s < M := by omega
          have t1 : m < e := by have := he.out; omega
          by_cases hsm : s < m
          · have t3 : M < e := by have := he.out; omega
            by_cases has : a < s
            · by_cases heb2 : e < b
              · skip
                go_wp2_with fail
                refine (rotate_any blk cap s m e n _ d0 w0 wr (X ++ A1) A2 B1 (B2 ++ Y) HR.out.1 HR.out.2 (by have := HS1.out; simpa only [List.append_assoc] using this) (by have h1 := HL.out; have h2 := HLn.out; simp only [List.length_append]; omega) (by have h1 := HL.out; simp only [List.length_append]; omega) (by have h1 := HL.out; simp only [List.length_append]; omega) (by have h1 := HL.out; simp only [List.length_append]; omega) (by have h1 := HL.out; omega) (by have h1 := HL.out; omega) hsz).mono ?_
                rintro e1 w1 ⟨rfl, h⟩
                have HS2 : Hid (SWL w0 blk (X ++ A1 ++ B1 ++ A2 ++ B2 ++ Y) w1) := Lib.hid (by simpa only [List.append_assoc] using h)
                clear h
                go_wp2_with fail
                refine (HIH.out a s M w1 X A1 B1 (A2 ++ B2 ++ Y) (by omega) (by have := HS2.out; simpa only [List.append_assoc] using this) (by have h1 := HL.out; have h2 := HLn.out; simp only [List.length_append]; omega) HL.out.1.symm (by have h1 := HL.out; omega) (by have h1 := HL.out; have h2 := he.out; omega) (by have h1 := HL.out; omega) (by have h1 := HL.out; have h2 := he.out; omega) HP.out.1 HP.out.2.2.1).mono ?_
                rintro e1 w2 ⟨rfl, h⟩
                have HS3 : Hid (SWL w0 blk (X ++ A1.merge B1 leP ++ A2 ++ B2 ++ Y) w2) := Lib.hid (by simpa only [List.append_assoc] using h)
                clear h
                go_wp2_with fail
                refine (HIH.out M e b w2 (X ++ A1.merge B1 leP) A2 B2 Y (by omega) (by have := HS3.out; simpa only [List.append_assoc] using this) (by have h1 := HL.out; have h2 := HLn.out; simp only [List.length_append, List.length_merge]; omega) (by have h1 := HL.out; have h2 := he.out; simp only [List.length_append, List.length_merge]; omega) (by have h1 := HL.out; have h2 := he.out; omega) (by have h1 := HL.out; omega) (by have h1 := HL.out; omega) (by have h1 := HL.out; omega) HP.out.2.1 HP.out.2.2.2).mono ?_
                rintro e1 w3 ⟨rfl, h⟩
                have HF : Hid (SWL w0 blk (X ++ (u.merge v leP ++ Y)) w3) := Lib.hid (by rw [HPT.out]; simpa only [List.append_assoc] using h)
                clear h
                go_wp2
                go_end0
                exact ⟨rfl, HF.out⟩
              · skip
                go_wp2_with fail
                refine (rotate_any blk cap s m e n _ d0 w0 wr (X ++ A1) A2 B1 (B2 ++ Y) HR.out.1 HR.out.2 (by have := HS1.out; simpa only [List.append_assoc] using this) (by have h1 := HL.out; have h2 := HLn.out; simp only [List.length_append]; omega) (by have h1 := HL.out; simp only [List.length_append]; omega) (by have h1 := HL.out; simp only [List.length_append]; omega) (by have h1 := HL.out; simp only [List.length_append]; omega) (by have h1 := HL.out; omega) (by have h1 := HL.out; omega) hsz).mono ?_
                rintro e1 w1 ⟨rfl, h⟩
                have HS2 : Hid (SWL w0 blk (X ++ A1 ++ B1 ++ A2 ++ B2 ++ Y) w1) := Lib.hid (by simpa only [List.append_assoc] using h)
                clear h
                go_wp2_with fail
                refine (HIH.out a s M w1 X A1 B1 (A2 ++ B2 ++ Y) (by omega) (by have := HS2.out; simpa only [List.append_assoc] using this) (by have h1 := HL.out; have h2 := HLn.out; simp only [List.length_append]; omega) HL.out.1.symm (by have h1 := HL.out; omega) (by have h1 := HL.out; have h2 := he.out; omega) (by have h1 := HL.out; omega) (by have h1 := HL.out; have h2 := he.out; omega) HP.out.1 HP.out.2.2.1).mono ?_
                rintro e1 w2 ⟨rfl, h⟩
                have HS3 : Hid (SWL w0 blk (X ++ A1.merge B1 leP ++ A2 ++ B2 ++ Y) w2) := Lib.hid (by simpa only [List.append_assoc] using h)
                clear h
                have HF : Hid (SWL w0 blk (X ++ (u.merge v leP ++ Y)) w2) := Lib.hid (by
                  have hB : B2 = [] := List.eq_nil_of_length_eq_zero (by have h1 := HL.out; omega)
                  have h1 := HS3.out
                  rw [HPT.out]
                  rw [hB] at h1 ⊢
                  rw [List.merge_right]
                  simpa only [List.append_assoc, List.append_nil, List.nil_append] using h1)
                go_wp2
                go_end0
                exact ⟨rfl, HF.out⟩
            · by_cases heb2 : e < b
              · skip
                go_wp2_with fail
                refine (rotate_any blk cap s m e n _ d0 w0 wr (X ++ A1) A2 B1 (B2 ++ Y) HR.out.1 HR.out.2 (by have := HS1.out; simpa only [List.append_assoc] using this) (by have h1 := HL.out; have h2 := HLn.out; simp only [List.length_append]; omega) (by have h1 := HL.out; simp only [List.length_append]; omega) (by have h1 := HL.out; simp only [List.length_append]; omega) (by have h1 := HL.out; simp only [List.length_append]; omega) (by have h1 := HL.out; omega) (by have h1 := HL.out; omega) hsz).mono ?_
                rintro e1 w1 ⟨rfl, h⟩
                have HS2 : Hid (SWL w0 blk (X ++ A1 ++ B1 ++ A2 ++ B2 ++ Y) w1) := Lib.hid (by simpa only [List.append_assoc] using h)
                clear h
                have HS3 : Hid (SWL w0 blk (X ++ A1.merge B1 leP ++ A2 ++ B2 ++ Y) w1) := Lib.hid (by
                  have hA : A1 = [] := List.eq_nil_of_length_eq_zero (by have h1 := HL.out; omega)
                  have h1 := HS2.out
                  rw [hA] at h1 ⊢
                  rw [List.nil_merge]
                  simpa only [List.append_assoc, List.nil_append] using h1)
                go_wp2_with fail
                refine (HIH.out M e b w1 (X ++ A1.merge B1 leP) A2 B2 Y (by omega) (by have := HS3.out; simpa only [List.append_assoc] using this) (by have h1 := HL.out; have h2 := HLn.out; simp only [List.length_append, List.length_merge]; omega) (by have h1 := HL.out; have h2 := he.out; simp only [List.length_append, List.length_merge]; omega) (by have h1 := HL.out; have h2 := he.out; omega) (by have h1 := HL.out; omega) (by have h1 := HL.out; omega) (by have h1 := HL.out; omega) HP.out.2.1 HP.out.2.2.2).mono ?_
                rintro e1 w3 ⟨rfl, h⟩
                have HF : Hid (SWL w0 blk (X ++ (u.merge v leP ++ Y)) w3) := Lib.hid (by rw [HPT.out]; simpa only [List.append_assoc] using h)
                clear h
                go_wp2
                go_end0
                exact ⟨rfl, HF.out⟩
              · skip
                go_wp2_with fail
                refine (rotate_any blk cap s m e n _ d0 w0 wr (X ++ A1) A2 B1 (B2 ++ Y) HR.out.1 HR.out.2 (by have := HS1.out; simpa only [List.append_assoc] using this) (by have h1 := HL.out; have h2 := HLn.out; simp only [List.length_append]; omega) (by have h1 := HL.out; simp only [List.length_append]; omega) (by have h1 := HL.out; simp only [List.length_append]; omega) (by have h1 := HL.out; simp only [List.length_append]; omega) (by have h1 := HL.out; omega) (by have h1 := HL.out; omega) hsz).mono ?_
                rintro e1 w1 ⟨rfl, h⟩
                have HS2 : Hid (SWL w0 blk (X ++ A1 ++ B1 ++ A2 ++ B2 ++ Y) w1) := Lib.hid (by simpa only [List.append_assoc] using h)
                clear h
                have HS3 : Hid (SWL w0 blk (X ++ A1.merge B1 leP ++ A2 ++ B2 ++ Y) w1) := Lib.hid (by
                  have hA : A1 = [] := List.eq_nil_of_length_eq_zero (by have h1 := HL.out; omega)
                  have h1 := HS2.out
                  rw [hA] at h1 ⊢
                  rw [List.nil_merge]
                  simpa only [List.append_assoc, List.nil_append] using h1)
                have HF : Hid (SWL w0 blk (X ++ (u.merge v leP ++ Y)) w1) := Lib.hid (by
                  have hB : B2 = [] := List.eq_nil_of_length_eq_zero (by have h1 := HL.out; omega)
                  have h1 := HS3.out
                  rw [HPT.out]
                  rw [hB] at h1 ⊢
                  rw [List.merge_right]
                  simpa only [List.append_assoc, List.append_nil, List.nil_append] using h1)
                go_wp2
                go_end0
                exact ⟨rfl, HF.out⟩
          · have t3 : ¬ M < e := by have := he.out; omega
            have has : a < s := by omega
            have HA2 : Hid (A2 = []) := Lib.hid (List.eq_nil_of_length_eq_zero (by have h1 := HL.out; omega))
            have HS2 : Hid (SWL w0 blk (X ++ A1 ++ B1 ++ A2 ++ B2 ++ Y) wr) := Lib.hid (by
              have h1 := HS1.out
              rw [HA2.out] at h1 ⊢
              simpa only [List.append_assoc, List.nil_append] using h1)
            go_wp2_with fail
            refine (HIH.out a s M wr X A1 B1 (A2 ++ B2 ++ Y) (by omega) (by have := HS2.out; simpa only [List.append_assoc] using this) (by have h1 := HL.out; have h2 := HLn.out; simp only [List.length_append]; omega) HL.out.1.symm (by have h1 := HL.out; omega) (by have h1 := HL.out; have h2 := he.out; omega) (by have h1 := HL.out; omega) (by have h1 := HL.out; have h2 := he.out; omega) HP.out.1 HP.out.2.2.1).mono ?_
            rintro e1 w2 ⟨rfl, h⟩
            have HS3 : Hid (SWL w0 blk (X ++ A1.merge B1 leP ++ A2 ++ B2 ++ Y) w2) := Lib.hid (by simpa only [List.append_assoc] using h)
            clear h
            have HF : Hid (SWL w0 blk (X ++ (u.merge v leP ++ Y)) w2) := Lib.hid (by
              have h1 := HS3.out
              rw [HPT.out]
              rw [HA2.out] at h1 ⊢
              rw [List.nil_merge]
              simpa only [List.append_assoc, List.nil_append] using h1)
            go_wp2
            go_end0
            exact ⟨rfl, HF.out⟩
end Go.Proofs.Ytbknkahakmfhkaa
