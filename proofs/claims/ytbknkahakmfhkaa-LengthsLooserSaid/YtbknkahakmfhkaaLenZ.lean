/- symMergeCmpFunc at packs: it merges, like ones in their order. -/
import Derived.Test.YtbknkahakmfhkaaLenY
import Derived.Test.YtbknkahakmfhkaaLenR
namespace Go.Proofs.Ytbknkahakmfhkaa
open Go.Shelf Go.RowKit Go.Lib Go.Sort
set_option linter.unusedVariables false
set_option linter.unusedSimpArgs false

abbrev leP : Pk → Pk → Bool := leA (fun p : Pk => p.often)
theorem merge_split {α : Type} (le : α → α → Bool) : ∀ (A1 A2 B1 B2 : List α), (∀ x ∈ A1, ∀ y ∈ B2, le x y = true) → (∀ y ∈ B1, ∀ x ∈ A2, le x y = false) → (A1 ++ A2).merge (B1 ++ B2) le = A1.merge B1 le ++ A2.merge B2 le
  | [], A2, [], B2, _, _ => by simp
  | [], [], y :: B1, B2, _, _ => by simp
  | [], x :: A2, y :: B1, B2, h1, h2 => by
    have ih := merge_split le [] (x :: A2) B1 B2 (fun _ h => by cases h) (fun y hy => h2 y (List.mem_cons_of_mem _ hy))
    rw [List.nil_append, List.cons_append, List.cons_merge_cons, if_neg (by rw [h2 y (by simp) x (by simp)]; simp)]
    rw [List.nil_append, List.nil_merge] at ih
    rw [ih, List.nil_merge, List.cons_append]
  | x :: A1, A2, [], [], _, _ => by simp
  | x :: A1, A2, [], y :: B2, h1, h2 => by
    have ih := merge_split le A1 A2 [] (y :: B2) (fun x hx => h1 x (List.mem_cons_of_mem _ hx)) h2
    rw [List.nil_append, List.cons_append, List.cons_merge_cons, if_pos (h1 x (by simp) y (by simp))]
    rw [List.nil_append, List.merge_right] at ih
    rw [ih, List.merge_right, List.cons_append]
  | x :: A1, A2, y :: B1, B2, h1, h2 => by
    rw [List.cons_append, List.cons_append, List.cons_merge_cons, List.cons_merge_cons]
    by_cases h : le x y = true
    · rw [if_pos h, if_pos h]
      have ih := merge_split le A1 A2 (y :: B1) B2 (fun x hx => h1 x (List.mem_cons_of_mem _ hx)) h2
      rw [List.cons_append] at ih
      rw [ih, List.cons_append]
    · rw [if_neg h, if_neg h]
      have ih := merge_split le (x :: A1) A2 B1 B2 h1 (fun y hy => h2 y (List.mem_cons_of_mem _ hy))
      rw [List.cons_append] at ih
      rw [ih, List.cons_append]
/-- One of the row's packs, by its number. -/
theorem swl_get {w0 W : World} {blk n : Nat} {d0 : Array Pk} {L : List Pk} (R : RowPk w0 blk d0) (h0 : d0.size = n) (hn : L.length = n) (S : SWL w0 blk L W) (i : Nat) (p : Pk) (hp : L[i]? = some p) :
    blk < W.heap.size ∧ W.cell? ⟨blk, i * 2, none⟩ = some (.int .i64 p.often) ∧ W.cell? ⟨blk, i * 2 + 1, none⟩ = some (.slice p.ptr p.signs.length p.cap) ∧ W.frozen? ⟨blk, i * 2, none⟩ = false ∧ W.frozen? ⟨blk, i * 2 + 1, none⟩ = false := by
  obtain ⟨d, hd, hS⟩ := S
  have hi := (List.getElem?_eq_some_iff.1 hp).1
  have hds : d.size = n := by rw [← Array.length_toList, hd, hn]
  have h := pk_holds (hS.holds R.hblk R.hH (by omega)) (show i < d.size by omega)
  have e : d[i]! = p := by
    rw [getElem!_pos d i (by omega), ← Array.getElem_toList]
    have := (List.getElem?_eq_some_iff.1 hp).2
    simp only [hd]; exact this
  rw [e] at h
  exact ⟨hS.lt R.hblk, h⟩
theorem swl_grown {w0 W : World} {blk : Nat} {L : List Pk} (S : SWL w0 blk L W) (n : Nat) (os : Array Obj) : SWL w0 blk L (grow (W.drewN n) os) := by
  obtain ⟨d, hd, hS⟩ := S
  exact ⟨d, hd, hS.grown n os⟩
theorem order_grown (x y : Pk) (W : World) (n : Nat) (os : Array Obj) : Calls Try.prog 75 #[.agg #[.int .i64 x.often, .slice x.ptr x.signs.length x.cap], .agg #[.int .i64 y.often, .slice y.ptr y.signs.length y.cap]] (grow (W.drewN n) os) fun e w' => e = .returned (.int .i64 (sgnI x.often y.often)) ∧ ∃ q os', w' = grow ((grow (W.drewN n) os).drewN q) os' := by
  refine (order_any x y _).mono ?_
  rintro e w' ⟨rfl, os', rfl⟩
  exact ⟨rfl, 0, os', rfl⟩
theorem swp_list2 {X Y Z : List Pk} {x y : Pk} {d : Array Pk} {p q : Nat} (h : d.toList = X ++ x :: Y ++ y :: Z) (hp : p = X.length) (hq : q = X.length + 1 + Y.length) : (swp d q p).toList = X ++ y :: Y ++ x :: Z := by
  rw [← swp_list h hp hq]
  unfold swp
  rw [Array.toList_setIfInBounds, Array.toList_setIfInBounds, Array.toList_setIfInBounds, Array.toList_setIfInBounds, List.set_comm _ _ (by omega)]
theorem swl_swap {w0 W : World} {blk n p q : Nat} {d0 : Array Pk} {X Y Z : List Pk} {x y : Pk} (R : RowPk w0 blk d0) (h0 : d0.size = n) (hn : (X ++ x :: Y ++ y :: Z).length = n) (S : SWL w0 blk (X ++ x :: Y ++ y :: Z) W) (hp : p = X.length) (hq : q = X.length + 1 + Y.length) :
    SWL w0 blk (X ++ y :: Y ++ x :: Z) ((W.drew.setCells blk (p * 2) (pkE y)).setCells blk (q * 2) (pkE x)) ∧ SWL w0 blk (X ++ y :: Y ++ x :: Z) ((W.drew.setCells blk (q * 2) (pkE x)).setCells blk (p * 2) (pkE y)) := by
  obtain ⟨d, hd, hS⟩ := S
  have hl : (X ++ x :: Y ++ y :: Z).length = X.length + 1 + Y.length + 1 + Z.length := by simp only [List.length_append, List.length_cons]; omega
  have hds : d.size = n := by rw [← Array.length_toList, hd, hn]
  have e1 : d[p]! = x := by
    rw [getElem!_pos d p (by omega), ← Array.getElem_toList]
    simp only [hd]
    rw [List.getElem_append_left (by simp only [List.length_append, List.length_cons]; omega), List.getElem_append_right (by omega)]
    simp [hp]
  have e2 : d[q]! = y := by
    rw [getElem!_pos d q (by omega), ← Array.getElem_toList]
    simp only [hd]
    rw [List.getElem_append_right (by simp only [List.length_append, List.length_cons]; omega)]
    simp only [List.length_append, List.length_cons, hq]
    simp only [show X.length + 1 + Y.length - (X.length + (Y.length + 1)) = 0 by omega]
    rfl
  have s1 := hS.swapped R p q (by omega) (by omega)
  have s2 := hS.swapped R q p (by omega) (by omega)
  rw [e1, e2] at s1 s2
  simp only [Nat.zero_add] at s1 s2
  exact ⟨⟨_, swp_list hd hp hq, s1⟩, ⟨_, swp_list2 hd hp hq, s2⟩⟩
theorem get_two (A Z : List Pk) (x y : Pk) : (A ++ x :: [] ++ y :: Z)[A.length + 1]? = some y := by
  rw [List.append_assoc, List.getElem?_append_right (by omega), show A.length + 1 - A.length = 1 by omega]; rfl
theorem sgn_lt (a b : Int) : sgnI a b < 0 ↔ a < b := by unfold sgnI; split <;> (try split) <;> omega
set_option maxHeartbeats 8000000 in
set_option maxRecDepth 1000000 in
theorem sym_one_any (blk cap a m b n : Nat) (d0 : Array Pk) (w0 W : World) (X v Y : List Pk) (x : Pk) (R : RowPk w0 blk d0) (h0 : d0.size = n) (S : SWL w0 blk (X ++ [x] ++ v ++ Y) W) (hn : (X ++ [x] ++ v ++ Y).length = n) (ha : a = X.length) (hm : m = a + 1) (hb : b = m + v.length) (hv : v.Pairwise (fun p q => leP p q = true)) (hsz : n < 1000000) :
    Calls Try.prog 123 #[.slice (some ⟨blk, 0, none⟩) n cap, .int .i64 a, .int .i64 m, .int .i64 b, .func (.func 75) #[] #[]] W fun e w' => e = .returned (.tuple #[]) ∧ SWL w0 blk (X ++ [x].merge v leP ++ Y) w' := by
  have HR : Hid (RowPk w0 blk d0 ∧ d0.size = n) := Lib.hid ⟨R, h0⟩
  have HS : Hid (SWL w0 blk (X ++ [x] ++ v ++ Y) W) := Lib.hid S
  have HN : Hid ((X ++ [x] ++ v ++ Y).length = n ∧ a = X.length ∧ m = a + 1 ∧ b = m + v.length) := Lib.hid ⟨hn, ha, hm, hb⟩
  have HV := Lib.hid hv
  have hl : (X ++ [x] ++ v ++ Y).length = X.length + 1 + v.length + Y.length := by simp only [List.length_append, List.length_singleton]
  have hmb : m ≤ b ∧ b ≤ n ∧ 1 ≤ m := by omega
  have g1 : (m : Int) - (a : Int) = 1 := by omega
  have hmn : Hid (m = a + 1) := Lib.hid hm
  clear R h0 S hn ha hm hb hv hl
  have mixed : Try.prog.follows .mixedOrders = true := by kernel_rfl
  have eg := entersO
  go_enter Try.func123, Try.ntmps123
  go_wp2
  go_loopw [10, 11] (fun x10 x11 wr => ∃ i j : Nat, m ≤ i ∧ i ≤ j ∧ j ≤ b ∧ x10 = .int .i64 i ∧ x11 = .int .i64 j ∧ Hid (∀ t p, v[t]? = some p → (m + t < i → p.often < x.often) ∧ (j ≤ m + t → x.often ≤ p.often)) ∧ Hid (SWL w0 blk (X ++ [x] ++ v ++ Y) wr)) (fun x10 x11 _ => (intOf x11).toNat - (intOf x10).toNat)
  case atStart => exact ⟨m, b, Nat.le_refl _, hmb.1, Nat.le_refl _, rfl, rfl, Lib.hid (fun t p hp => ⟨fun h => by omega, fun h => by have := (List.getElem?_eq_some_iff.1 hp).1; have := HN.out.2.2.2; omega⟩), HS⟩
  case round =>
    clear HS
    obtain ⟨i, j, hmi, hij, hjb, rfl, rfl, HB, HS⟩ := hrel
    by_cases hlt : i < j
    · obtain ⟨h, gh⟩ : ∃ h : Nat, ((i : Int) + (j : Int)) / 2 = (h : Int) := ⟨((i + j) / 2 : Nat), by omega⟩
      have hih : i ≤ h ∧ h < j := by omega
      have hhn : (h : Int) < (n : Int) := by omega
      have han : (a : Int) < (n : Int) := by omega
      obtain ⟨p, hp⟩ : ∃ p, v[h - m]? = some p := ⟨v[h - m]'(by have := HN.out.2.2.2; omega), List.getElem?_eq_getElem _⟩
      have hLh : (X ++ [x] ++ v ++ Y)[h]? = some p := by
        have h1 := HN.out.2.1; have h2 := HN.out.2.2.1
        rw [List.getElem?_append_left (by have := (List.getElem?_eq_some_iff.1 hp).1; simp only [List.length_append, List.length_singleton]; omega), List.getElem?_append_right (by simp only [List.length_append, List.length_singleton]; omega)]
        rw [show h - (X ++ [x]).length = h - m by simp only [List.length_append, List.length_singleton]; omega]
        exact hp
      have hLa : (X ++ [x] ++ v ++ Y)[a]? = some x := by
        rw [List.append_assoc, List.append_assoc, HN.out.2.1, List.getElem?_append_right (Nat.le_refl _), Nat.sub_self]; rfl
      obtain ⟨hbk, c1, c2, -, -⟩ := swl_get HR.out.1 HR.out.2 HN.out.1 HS.out h p hLh
      obtain ⟨-, c3, c4, -, -⟩ := swl_get HR.out.1 HR.out.2 HN.out.1 HS.out a x hLa
      have k1 := cell_grown (w := wr) hbk c1
      have k2 := cell_grown (w := wr) (a := ⟨blk, h * 2 + 1, none⟩) hbk c2
      have k3 := cell_grown (w := wr) (a := ⟨blk, a * 2, none⟩) hbk c3
      have k4 := cell_grown (w := wr) (a := ⟨blk, a * 2 + 1, none⟩) hbk c4
      have hc := order_grown p x wr
      have hsg := sgn_lt p.often x.often
      generalize sgnI p.often x.often = sg at hc hsg
      have HP := Lib.hid hp
      have HX : Hid (∀ t q, v[t]? = some q → (t ≤ h - m → p.often < x.often → q.often < x.often) ∧ (h - m ≤ t → x.often ≤ p.often → x.often ≤ q.often)) := Lib.hid (fun t q hq => by
        have hmono : ∀ (s u : Nat) (y z : Pk), s < u → v[s]? = some y → v[u]? = some z → y.often ≤ z.often := fun s u y z hsu hy hz => by
          obtain ⟨h1, e1⟩ := List.getElem?_eq_some_iff.1 hy
          obtain ⟨h2, e2⟩ := List.getElem?_eq_some_iff.1 hz
          have := (List.pairwise_iff_getElem.1 HV.out) s u h1 h2 hsu
          rw [e1, e2] at this
          simpa [leA] using this
        refine ⟨fun h1 h2 => ?_, fun h1 h2 => ?_⟩
        · by_cases he : t = h - m
          · subst he; rw [HP.out] at hq; have : p = q := by simpa using hq
            rw [← this]; exact h2
          · have := hmono t (h - m) q p (by omega) hq HP.out; omega
        · by_cases he : t = h - m
          · subst he; rw [HP.out] at hq; have : p = q := by simpa using hq
            rw [← this]; exact h2
          · have := hmono (h - m) t p q (by omega) HP.out hq; omega)
      clear hp hLh hLa c1 c2 c3 c4 hbk
      by_cases hcm : p.often < x.often
      · have hd : sg < 0 := hsg.2 hcm
        have HC := Lib.hid hcm
        clear hsg hcm
        go_wp2_with fail
        go_quiet_grown (first | (go_at_fn 75; refine Calls.grown_of (hc _ _)))
        have S2 : Hid (SWL w0 blk (X ++ [x] ++ v ++ Y) (grow (wr.drewN nq) osq)) := Lib.hid (swl_grown HS.out nq osq)
        clear k1 k2 k3 k4 hc HS
        generalize grow (wr.drewN nq) osq = w2 at S2 ⊢
        go_wp2
        go_roundw
        case rel => exact ⟨h + 1, j, by omega, by omega, hjb, by go_num, rfl, Lib.hid (fun t q hq => ⟨fun h1 => (HX.out t q hq).1 (by omega) HC.out, fun h1 => (HB.out t q hq).2 h1⟩), S2⟩
        case measure => simp [intOf] <;> omega
      · have hd : ¬ sg < 0 := fun hh => hcm (hsg.1 hh)
        have HC := Lib.hid (Int.not_lt.1 hcm)
        clear hsg hcm
        go_wp2_with fail
        go_quiet_grown (first | (go_at_fn 75; refine Calls.grown_of (hc _ _)))
        have S2 : Hid (SWL w0 blk (X ++ [x] ++ v ++ Y) (grow (wr.drewN nq) osq)) := Lib.hid (swl_grown HS.out nq osq)
        clear k1 k2 k3 k4 hc HS
        generalize grow (wr.drewN nq) osq = w2 at S2 ⊢
        go_wp2
        go_roundw
        case rel => exact ⟨i, h, hmi, by omega, by omega, rfl, rfl, Lib.hid (fun t q hq => ⟨fun h1 => (HB.out t q hq).1 h1, fun h1 => (HX.out t q hq).2 (by omega) HC.out⟩), S2⟩
        case measure => simp [intOf] <;> omega
    · have hij' : i = j := by omega
      subst hij'
      obtain ⟨c, hc⟩ : ∃ c, Hid (i = m + c) := ⟨i - m, Lib.hid (by omega)⟩
      have hcv : c ≤ v.length := by have := HN.out.2.2.2; have := hc.out; omega
      have hci : a + 1 + c = i := by have := hc.out; have := hmn.out; omega
      have HCI : Hid (a + 1 + c = i) := Lib.hid hci
      obtain ⟨v1, v2, hv12⟩ : ∃ v1 v2, Hid (v1 = v.take c ∧ v2 = v.drop c) := ⟨_, _, Lib.hid ⟨rfl, rfl⟩⟩
      have HV1 : Hid (v1.length = c ∧ v = v1 ++ v2 ∧ [x].merge v leP = v1 ++ x :: v2) := Lib.hid (by
        obtain ⟨rfl, rfl⟩ := hv12.out
        refine ⟨by rw [List.length_take]; omega, (List.take_append_drop c v).symm, ?_⟩
        have h1 := merge_split leP [] [x] (v.take c) (v.drop c) (fun _ h => by cases h) (fun y hy z hz => by
          rw [List.mem_singleton.1 hz]
          obtain ⟨t, ht, hty⟩ := List.getElem_of_mem hy
          rw [List.length_take] at ht
          rw [List.getElem_take] at hty
          have h2 := (HB.out t y (by rw [← hty]; exact List.getElem?_eq_getElem _)).1 (by have := hc.out; omega)
          exact decide_eq_false (by show ¬ x.often ≤ y.often; omega))
        rw [List.nil_append, List.take_append_drop, List.nil_merge] at h1
        rw [h1, List.merge_of_le]
        · rfl
        · intro z y hz hy
          rw [List.mem_singleton.1 hz]
          obtain ⟨t, ht, hty⟩ := List.getElem_of_mem hy
          rw [List.getElem_drop] at hty
          rw [List.length_drop] at ht
          have h2 := (HB.out (c + t) y (by rw [← hty]; exact List.getElem?_eq_getElem _)).2 (by have := hc.out; omega)
          exact decide_eq_true h2)
      have S0 : Hid (SWL w0 blk (X ++ (v1.take 0 ++ x :: v1.drop 0) ++ v2 ++ Y) wr) := Lib.hid (by
        have h1 := HS.out
        rw [HV1.out.2.1] at h1
        simpa using h1)
      have HLN : Hid (X.length + 1 + c + v2.length + Y.length = n) := Lib.hid (by
        have h1 := HN.out.1
        rw [HV1.out.2.1] at h1
        simp only [List.length_append, List.length_singleton] at h1
        have := HV1.out.1
        omega)
      have gi1 : (i : Int) - 1 = ((a + c : Nat) : Int) := by omega
      have hin : a + c < n := by have := HLN.out; have := HN.out.2.1; omega
      clear hci HS HB hv12 hcv
      go_wp2_with fail
      go_loopw [13] (fun x13 wq => ∃ t : Nat, t ≤ c ∧ x13 = .int .i64 ((a : Int) + (t : Int)) ∧ Hid (SWL w0 blk (X ++ (v1.take t ++ x :: v1.drop t) ++ v2 ++ Y) wq)) (fun x13 _ => a + c - (intOf x13).toNat)
      case atStart => exact ⟨0, Nat.zero_le _, by simp, S0⟩
      case round =>
        clear S0
        obtain ⟨t, ht, rfl, HS⟩ := hrel
        by_cases htc : t < c
        · obtain ⟨y, hy⟩ : ∃ y, v1[t]? = some y := ⟨v1[t]'(by have := HV1.out.1; omega), List.getElem?_eq_getElem _⟩
          have hd1 : v1.drop t = y :: v1.drop (t + 1) := by
            obtain ⟨h1, e1⟩ := List.getElem?_eq_some_iff.1 hy
            rw [List.drop_eq_getElem_cons h1, e1]
          have ht1 : v1.take (t + 1) = v1.take t ++ [y] := by
            obtain ⟨h1, e1⟩ := List.getElem?_eq_some_iff.1 hy
            rw [List.take_succ_eq_append_getElem h1, e1]
          obtain ⟨P, hP⟩ : ∃ P : Nat, P = a + t := ⟨_, rfl⟩
          have hPl : P = (X ++ v1.take t).length := by rw [List.length_append, List.length_take, hP, HN.out.2.1]; have := HV1.out.1; omega
          have hL : X ++ (v1.take t ++ x :: v1.drop t) ++ v2 ++ Y = (X ++ v1.take t) ++ x :: [] ++ y :: (v1.drop (t + 1) ++ v2 ++ Y) := by
            rw [hd1]; simp only [List.append_assoc, List.cons_append, List.nil_append]
          have hlen : ((X ++ v1.take t) ++ x :: [] ++ y :: (v1.drop (t + 1) ++ v2 ++ Y)).length = n := by
            rw [← hL]
            simp only [List.length_append, List.length_cons, List.length_take, List.length_drop]
            have := HLN.out; have := HV1.out.1; omega
          have hSW := HS.out
          rw [hL] at hSW
          have hg1 := swl_get HR.out.1 HR.out.2 hlen hSW P x (by rw [List.append_assoc, hPl, List.getElem?_append_right (Nat.le_refl _), Nat.sub_self]; rfl)
          have hg2 := swl_get HR.out.1 HR.out.2 hlen hSW (P + 1) y (by rw [hPl]; exact get_two _ _ _ _)
          have hsw := (swl_swap HR.out.1 HR.out.2 hlen hSW (p := P) (q := P + 1) hPl (by rw [hPl]; rfl)).1
          have S2 : Hid (SWL w0 blk (X ++ (v1.take (t + 1) ++ x :: v1.drop (t + 1)) ++ v2 ++ Y) ((wr.drew.setCells blk (P * 2) (pkE y)).setCells blk ((P + 1) * 2) (pkE x))) := Lib.hid (by
            rw [ht1]
            simpa only [List.append_assoc, List.cons_append, List.nil_append] using hsw)
          obtain ⟨-, c1, c2, f1, f2⟩ := hg1
          obtain ⟨-, c3, c4, f3, f4⟩ := hg2
          obtain ⟨o1, p1, k1, s1⟩ := x
          obtain ⟨o2, p2, k2, s2⟩ := y
          simp only at c1 c2 c3 c4
          have gP : (a : Int) + (t : Int) = (P : Int) := by omega
          have gP1 : ((P : Int) + 1).toNat = P + 1 := by omega
          have gP2 : (0 : Int) ≤ (P : Int) + 1 := by omega
          have gP3 : (P : Int) + 1 < (n : Int) := by omega
          have gP4 : (P : Int) < (n : Int) := by omega
          have gP5 : IntKind.i64.wrap ((P : Int) + 1) = (P : Int) + 1 := by rw [IntKind.wrap_i64]; omega
          have gP6 : (P : Int) < ((a + c : Nat) : Int) := by omega
          have e1 : ¬ (P + 1) * 2 = P * 2 := by omega
          have e2 : ¬ (P + 1) * 2 = P * 2 + 1 := by omega
          have e3 : ¬ (P + 1) * 2 + 1 = P * 2 := by omega
          have e5 : ¬ P * 2 = (P + 1) * 2 := by omega
          have e6 : ¬ P * 2 + 1 = (P + 1) * 2 := by omega
          have e7 : ¬ P * 2 = (P + 1) * 2 + 1 := by omega
          have HP := Lib.hid hP
          clear hP hPl hL hlen hSW hsw hd1 ht1 hy HS
          go_wp2_with fail
          go_big_region_o
          all_goals go_wp2
          go_roundw
          case rel => exact ⟨t + 1, by omega, by have := HP.out; congr 1; omega, S2⟩
          case measure => simp [intOf] <;> omega
        · have htc' : t = c := by omega
          subst htc'
          have HF : Hid (SWL w0 blk (X ++ [x].merge v leP ++ Y) wr) := Lib.hid (by
            have h1 := HS.out
            rw [List.take_of_length_le (by rw [HV1.out.1]; exact Nat.le_refl _), List.drop_of_length_le (by rw [HV1.out.1]; exact Nat.le_refl _)] at h1
            rw [HV1.out.2.2]
            simpa only [List.append_assoc, List.cons_append, List.nil_append] using h1)
          have g9 : ¬ (a : Int) + (t : Int) < ((a + t : Nat) : Int) := by omega
          clear HS
          go_wp2
          refine bodyPost_ret (results_none rfl _ _ _) rfl ?_
          exact ⟨rfl, by rw [← List.append_assoc]; exact HF.out⟩
end Go.Proofs.Ytbknkahakmfhkaa
