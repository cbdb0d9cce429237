/- The document's: which pictures may be. -/
import Derived.Test.YtggeppmiifkikaaDoorTellFits
import Derived.Test.YtggeppmiifkikaaDoorSnapParse0
import Derived.Deep.QuietTactic
import Derived.BigQuiet
namespace Go.Proofs.YtggeppmiifkikaaDoor
open Go Go.RowKit Go.Shelf

theorem ItemsAt.at' {w : World} {ao : Option Addr} {n cap : Nat} {l : List It} (h : ItemsAt w (.slice ao n cap) l) (k : Nat) {x : It} (hx : l[k]? = some x) :
    ∃ b off, ao = some ⟨b, off, none⟩ ∧ w.cell? ⟨b, off + k * 3, none⟩ = some (.string x.key) ∧ w.cell? ⟨b, off + k * 3 + 1, none⟩ = some (.string x.val) ∧ w.cell? ⟨b, off + k * 3 + 1 + 1, none⟩ = some (.int .i64 x.dl) := by
  rcases h with ⟨_, hnil⟩ | ⟨bb, off, cap', he, e1, e2, e3⟩
  · rw [hnil] at hx; cases hx
  · simp only [Value.slice.injEq] at he
    obtain ⟨q0, q1, q2⟩ := e3 k x hx
    exact ⟨bb, off, he.1, q0, q1, q2⟩
theorem twiceN_low {l : List It} : ∀ {n m : Nat}, m ≤ n → twiceN l n = false → twiceN l m = false
  | 0, m, h, ht => by
    obtain rfl : m = 0 := by omega
    exact ht
  | n + 1, m, h, ht => by
    by_cases hm : m = n + 1
    · subst hm; exact ht
    · refine twiceN_low (n := n) (by omega) ?_
      rw [twiceN, Bool.or_eq_false_iff] at ht
      exact ht.1
theorem keyInj {a b : ByteArray} (h : a.toList = b.toList) : a = b := by
  rw [ByteArray.toList_eq, ByteArray.toList_eq] at h
  exact ByteArray.ext (Array.toList_inj.1 h)
set_option maxRecDepth 100000 in
theorem Ref_Right_early (p : Pic) (v : Value) (w : World) (n : Nat) (ao : Option Addr) (cap : Nat) (hn : p.items.length = n) (hv : v = .slice ao n cap) (h : ¬ RestP p) :
    Calls Tryd.prog 30 #[.agg (picCells p v)] w fun r w' => r = .returned (.int .i64 (codeP p)) ∧ Keep w w' := by
  subst hv
  have H0 := (Holds.start w).alloc (o := .cells (picCells p (.slice ao n cap)) 37)
  have cF := hide (fun w => Ref_Fits p (.slice ao n cap) w)
  simp only [picCells] at cF H0
  obtain ⟨a0, a1, a2, a3, a4, a5, a6, a7, a8, a9⟩ := tenCells H0
  have k0 := hide H0.drop.toKeep
  unfold picCells
  clear H0 a1 a2 a3 a4 a5 a6
  by_cases hc : cfgC p.c = 0
  · rw [hc] at cF
    by_cases hk : 0 ≤ p.kind ∧ p.kind ≤ 6
    · by_cases hw : (0 ≤ p.now ∧ p.now ≤ 1099511627776) ∧ (p.items.length : Int) ≤ p.c.size
      · exact absurd ⟨hc, hk, hw.1, hw.2⟩ h
      · rw [code_now hc hk hw]
        rw [hn] at hw
        have hw' : p.now < 0 ∨ (¬ p.now < 0 ∧ 1099511627776 < p.now) ∨ (¬ p.now < 0 ∧ ¬ 1099511627776 < p.now ∧ p.c.size < n) := by omega
        have f1 : ¬ p.kind < 0 := by omega
        have f2 : ¬ 6 < p.kind := by omega
        clear hw hk hc h
        rcases hw' with h | ⟨h0, h⟩ | ⟨h0, h1, h⟩
        all_goals
          go_enter Tryd.func30, Tryd.ntmps30
          go_wp2_with (go_at_call 19; (with_reducible refine (cF.out _).mono ?_); rintro r w1 ⟨rfl, hk⟩; have d7 := hk.cell a7; have d8 := hk.cell a8; have d9 := hk.cell a9; have d0 := hk.cell a0; have hk := hide hk)
          go_ret
          exact ⟨rfl, k0.out.trans hk.out⟩
    · rw [code_kind hc hk]
      have hk' := not_in hk
      clear hk hc h
      rcases hk' with h | ⟨h0, h⟩
      all_goals
        go_enter Tryd.func30, Tryd.ntmps30
        go_wp2_with (go_at_call 19; (with_reducible refine (cF.out _).mono ?_); rintro r w1 ⟨rfl, hk⟩; have d7 := hk.cell a7; have hk := hide hk)
        go_ret
        exact ⟨rfl, k0.out.trans hk.out⟩
  · rw [code_cfg hc]
    obtain ⟨m, hm⟩ : ∃ m, cfgC p.c = m := ⟨_, rfl⟩
    rw [hm] at cF hc ⊢
    have hc' : (m == 0) = false := beq_eq_false_iff_ne.2 hc
    clear hm hc h
    go_enter Tryd.func30, Tryd.ntmps30
    go_wp2_with (go_at_call 19; (with_reducible refine (cF.out _).mono ?_); rintro r w1 ⟨rfl, hk⟩; have hk := hide hk)
    go_ret
    exact ⟨rfl, k0.out.trans hk.out⟩
set_option maxRecDepth 100000 in
set_option maxHeartbeats 4000000 in
theorem Ref_Right_rest (p : Pic) (v : Value) (w : World) (hv : ItemsAt w v p.items) (n : Nat) (ao : Option Addr) (cap : Nat) (hn : p.items.length = n) (hv' : v = .slice ao n cap) (hl : n ≤ 100000) (h : RestP p) :
    Calls Tryd.prog 30 #[.agg (picCells p v)] w fun r w' => r = .returned (.int .i64 (codeP p)) ∧ Keep w w' := by
  subst hv'
  have H0 := (Holds.start w).alloc (o := .cells (picCells p (.slice ao n cap)) 37)
  have cF := hide (fun w => Ref_Fits p (.slice ao n cap) w)
  simp only [picCells] at cF H0
  rw [h.cfg] at cF
  obtain ⟨a0, a1, a2, a3, a4, a5, a6, a7, a8, a9⟩ := tenCells H0
  have k0 := hide H0.drop.toKeep
  have hv := hide (hv.keep k0.out)
  have f1 : ¬ p.kind < 0 := by have := h.kind; omega
  have f2 : ¬ 6 < p.kind := by have := h.kind; omega
  have f3 : ¬ p.now < 0 := by have := h.now; omega
  have f4 : ¬ 1099511627776 < p.now := by have := h.now; omega
  have f5 : ¬ p.c.size < n := by have := h.len; omega
  have hr := hide h
  have hn := hide hn
  obtain ⟨c, hc⟩ : ∃ c, codeP p = c := ⟨_, rfl⟩
  rw [hc]
  have hc := hide hc
  unfold picCells
  clear H0 a1 a2 a3 a4 a5 a6 h
  go_enter Tryd.func30, Tryd.ntmps30
  go_wp2_with (first | (go_at_call 19; (with_reducible refine (cF.out _).mono ?_); rintro r w1 ⟨rfl, hk⟩; have d7 := hk.cell a7; have d8 := hk.cell a8; have d9 := hk.cell a9; have d0 := hk.cell a0; have hk := hide hk))
  generalize hW : w.alloc (.cells #[.int .i64 p.c.size, .int .i64 p.c.shift, .int .i64 p.c.window, .int .i64 p.c.margin, .int .i64 p.c.hold, .int .i64 p.c.quota, .int .i64 p.c.pin, .int .i64 p.kind, .int .i64 p.now, .slice ao n cap] 37) = w0 at a0 a7 a8 a9 k0 hv hk
  clear hW
  go_loopw [4] (fun i wr => ∃ k : Nat, i = .int .i64 k ∧ k ≤ n ∧ Keep w0 wr ∧ Hide (∀ j y, j < k → p.items[j]? = some y → itC y = 0)) (fun i _ => (n - intOf i).toNat)
  case atStart => exact ⟨0, rfl, Nat.zero_le _, hk.out, ⟨fun j y hj => by omega⟩⟩
  case round =>
    obtain ⟨k, rfl, hk1, hK, hZ⟩ := hrel
    have c8 := hK.cell a8
    have c9 := hK.cell a9
    have hK := hide hK
    by_cases hlt : k < n
    · have hlt' : (k : Int) < n := by omega
      obtain ⟨x, hx⟩ : ∃ x, p.items[k]? = some x := ⟨_, List.getElem?_eq_getElem (by have := hn.out; omega)⟩
      obtain ⟨bb, off, rfl, q0, q1, q2⟩ := hv.out.at' k hx
      have q0 := hK.out.cell q0
      have q1 := hK.out.cell q1
      have q2 := hK.out.cell q2
      have hx := hide hx
      by_cases hi : itC x = 0
      · have cI := hide (fun w => Ref_item x w)
        rw [hi] at cI
        have hN : Hide (∀ j y, j < k + 1 → p.items[j]? = some y → itC y = 0) := ⟨fun j y hj hy => by
          by_cases hjk : j < k
          · exact hZ.out j y hjk hy
          · obtain rfl : j = k := by omega
            rw [hx.out] at hy
            cases hy
            exact hi⟩
        clear hi
        go_wp2_with (go_at_call 48; (with_reducible refine (cI.out _).mono ?_); rintro r w2 ⟨rfl, h2⟩; have h2 := hide h2)
        go_roundw
        case rel => exact ⟨k + 1, by go_num, hlt, hK.out.trans h2.out, hN⟩
        case measure => (simp [intOf] <;> omega)
      · have cI := hide (fun w => Ref_item x w)
        have hR : Hide (itC x = c) := ⟨by rw [← hc.out, code_item hr.out hx.out (fun i y hy => hZ.out i y hy) hi]⟩
        have hi' : (itC x == 0) = false := beq_eq_false_iff_ne.2 hi
        rw [hR.out] at cI hi'
        clear hi hR
        go_wp2_with (go_at_call 48; (with_reducible refine (cI.out _).mono ?_); rintro r w2 ⟨rfl, h2⟩; have h2 := hide h2)
        go_ret
        exact ⟨rfl, k0.out.trans (hK.out.trans h2.out)⟩
    · obtain rfl : n = k := by omega
      have hZ : Hide (∀ (j : Nat) (y : It), p.items[j]? = some y → itC y = 0) := ⟨fun j y hy => hZ.out j y (by rw [← hn.out]; exact (List.getElem?_eq_some_iff.1 hy).1) hy⟩
      go_wp2
      go_loopw [6] (fun i wr => ∃ k : Nat, i = .int .i64 k ∧ k ≤ n ∧ Keep w0 wr ∧ Hide (∀ j y, j < k → p.items[j]? = some y → overI p.now y = false)) (fun i _ => (n - intOf i).toNat)
      case atStart => exact ⟨0, rfl, Nat.zero_le _, hK.out, ⟨fun j y hj => by omega⟩⟩
      case round =>
        clear c8 c9 hK
        obtain ⟨k, rfl, hk1, hK, hO⟩ := hrel
        have c8 := hK.cell a8
        have c9 := hK.cell a9
        have hK := hide hK
        by_cases hlt : k < n
        · have hlt' : (k : Int) < n := by omega
          obtain ⟨x, hx⟩ : ∃ x, p.items[k]? = some x := ⟨_, List.getElem?_eq_getElem (by have := hn.out; omega)⟩
          obtain ⟨bb, off, rfl, q0, q1, q2⟩ := hv.out.at' k hx
          have st := hide (fun w' (k : Keep w0 w') => And.intro (k.cell a9) (And.intro (k.cell a8) (And.intro (k.cell q0) (And.intro (k.cell q1) (k.cell q2)))))
          have hx := hide hx
          have kq := hide hK.out.drew
          clear q0 q1 q2
          cases hi : overI p.now x with
          | false =>
            have cI := hide (fun w => Ref_Over x p.now false hi w)
            have hN : Hide (∀ j y, j < k + 1 → p.items[j]? = some y → overI p.now y = false) := ⟨fun j y hj hy => by
              by_cases hjk : j < k
              · exact hO.out j y hjk hy
              · obtain rfl : j = k := by omega
                rw [hx.out] at hy
                cases hy
                exact hi⟩
            clear hi
            go_wp2
            go_region_held3 (fun w' => w'.cell? ⟨w.heap.size, 9, none⟩ = some (.slice (some ⟨bb, off, none⟩) n cap) ∧ w'.cell? ⟨w.heap.size, 8, none⟩ = some (.int .i64 p.now) ∧ w'.cell? ⟨bb, off + k * 3, none⟩ = some (.string x.key) ∧ w'.cell? ⟨bb, off + k * 3 + 1, none⟩ = some (.string x.val) ∧ w'.cell? ⟨bb, off + k * 3 + 1 + 1, none⟩ = some (.int .i64 x.dl)) (exact st.out _ kq.out) ((go_at_call 49; (with_reducible refine (cI.out _).mono ?_); rintro r wn ⟨rfl, h⟩; replace kq := hide (kq.out.trans h); clear h))
            all_goals
              go_wp2
              go_roundw
              case rel => exact ⟨k + 1, by go_num, hlt, kq.out, hN⟩
              case measure => (simp [intOf] <;> omega)
          | true =>
            have cI := hide (fun w => Ref_Over x p.now true hi w)
            have hR : Hide (11 = c) := ⟨by rw [← hc.out, code_over hr.out hZ.out (List.any_eq_true.2 ⟨x, List.mem_of_getElem? hx.out, hi⟩)]⟩
            clear hi
            go_wp2
            go_region_held3 (fun w' => w'.cell? ⟨w.heap.size, 9, none⟩ = some (.slice (some ⟨bb, off, none⟩) n cap) ∧ w'.cell? ⟨w.heap.size, 8, none⟩ = some (.int .i64 p.now) ∧ w'.cell? ⟨bb, off + k * 3, none⟩ = some (.string x.key) ∧ w'.cell? ⟨bb, off + k * 3 + 1, none⟩ = some (.string x.val) ∧ w'.cell? ⟨bb, off + k * 3 + 1 + 1, none⟩ = some (.int .i64 x.dl)) (exact st.out _ kq.out) ((go_at_call 49; (with_reducible refine (cI.out _).mono ?_); rintro r wn ⟨rfl, h⟩; replace kq := hide (kq.out.trans h); clear h))
            all_goals
              go_wp2
              go_ret
              exact ⟨by rw [← hR.out]; rfl, k0.out.trans kq.out⟩
        · obtain rfl : n = k := by omega
          have hO : Hide (p.items.any (overI p.now) = false) := ⟨List.any_eq_false.2 fun y hy => by
            obtain ⟨j, hj, hj'⟩ := List.mem_iff_getElem.1 hy
            rw [hO.out j y (by rw [← hn.out]; exact hj) (by rw [List.getElem?_eq_getElem hj, hj'])]
            exact Bool.false_ne_true⟩
          go_wp2
          go_loopw [7] (fun i wr => ∃ k : Nat, i = .int .i64 k ∧ k ≤ n ∧ Keep w0 wr ∧ Hide (twiceN p.items k = false)) (fun i _ => (n - intOf i).toNat)
          case atStart => exact ⟨0, rfl, Nat.zero_le _, hK.out, ⟨rfl⟩⟩
          case round =>
            clear c8 c9 hK
            obtain ⟨k, rfl, hk1, hK, hT⟩ := hrel
            have c9 := hK.cell a9
            have hK := hide hK
            by_cases hlt : k < n
            · have hlt' : (k : Int) < n := by omega
              obtain ⟨x, hx⟩ : ∃ x, p.items[k]? = some x := ⟨_, List.getElem?_eq_getElem (by have := hn.out; omega)⟩
              have hx := hide hx
              go_wp2
              go_loopw [8] (fun i wr => ∃ j : Nat, i = .int .i64 j ∧ j ≤ k ∧ Keep w0 wr ∧ Hide (hasKey (p.items.take j) x.key = false)) (fun i _ => (k - intOf i).toNat)
              case atStart => exact ⟨0, rfl, Nat.zero_le _, hK.out, ⟨rfl⟩⟩
              case round =>
                clear c9 hK
                obtain ⟨j, rfl, hj1, hK, hH⟩ := hrel
                have c9 := hK.cell a9
                have hK := hide hK
                by_cases hjt : j < k
                · have hjt' : (j : Int) < k := by omega
                  have hjn : (j : Int) < n := by omega
                  obtain ⟨y, hy⟩ : ∃ y, p.items[j]? = some y := ⟨_, List.getElem?_eq_getElem (by have := hn.out; omega)⟩
                  obtain ⟨bb, off, he, q0, -, -⟩ := hv.out.at' j hy
                  obtain ⟨bb', off', he', r0, -, -⟩ := hv.out.at' k hx.out
                  obtain rfl := he
                  cases he'
                  have q0 := hK.out.cell q0
                  have r0 := hK.out.cell r0
                  have hy := hide hy
                  by_cases hi : y.key = x.key
                  · have hR : Hide (10 = c) := ⟨by
                      rw [← hc.out, code_twice hr.out hZ.out hO.out]
                      cases ht : twiceN p.items p.items.length with
                      | true => rfl
                      | false =>
                        have h1 := twiceN_low (m := k + 1) (by rw [hn.out]; omega) ht
                        rw [twiceN, hx.out, Bool.or_eq_false_iff] at h1
                        have h2 := List.any_eq_false.1 h1.2 y (List.mem_of_getElem? (by rw [List.getElem?_take_of_lt hjt]; exact hy.out))
                        exact absurd (decide_eq_true hi) h2⟩
                    have hb : (y.key.toList == x.key.toList) = true := by rw [hi]; exact beq_self_eq_true _
                    clear hi
                    go_wp2
                    go_region_law (fail)
                    all_goals
                      go_wp2
                      go_ret
                      exact ⟨by rw [← hR.out]; rfl, k0.out.trans hK.out.drew⟩
                  · have hb : (y.key.toList == x.key.toList) = false := beq_eq_false_iff_ne.2 fun h => hi (keyInj h)
                    have hN : Hide (hasKey (p.items.take (j + 1)) x.key = false) := ⟨by rw [hasKey_take_succ _ _ _ hy.out, hH.out, Bool.false_or]; exact decide_eq_false hi⟩
                    clear hi
                    go_wp2
                    go_region_law (fail)
                    all_goals
                      go_wp2
                      go_roundw
                      case rel => exact ⟨j + 1, by go_num, hjt, hK.out.drew, hN⟩
                      case measure => (simp [intOf] <;> omega)
                · obtain rfl : k = j := by omega
                  have hN : Hide (twiceN p.items (k + 1) = false) := ⟨by rw [twiceN, hT.out, hx.out, Bool.false_or]; exact hH.out⟩
                  go_wp2
                  go_roundw
                  case rel => exact ⟨k + 1, by go_num, hlt, hK.out, hN⟩
                  case measure => (simp [intOf] <;> omega)
            · obtain rfl : n = k := by omega
              have hR : Hide (0 = c) := ⟨by rw [← hc.out, code_fine hr.out hZ.out hO.out (by rw [hn.out]; exact hT.out)]⟩
              go_wp2
              go_ret
              exact ⟨by rw [← hR.out]; rfl, k0.out.trans hK.out⟩
theorem Ref_Right (p : Pic) (v : Value) (w : World) (hv : ItemsAt w v p.items) (hl : p.items.length ≤ 100000) :
    Calls Tryd.prog 30 #[.agg (picCells p v)] w fun r w' => r = .returned (.int .i64 (codeP p)) ∧ Keep w w' := by
  obtain ⟨n, hn⟩ : ∃ n, p.items.length = n := ⟨_, rfl⟩
  have hv2 := hv.shape
  rw [hn] at hv2 hl
  obtain ⟨ao, cap, h⟩ := hv2
  by_cases hr : RestP p
  · exact Ref_Right_rest p v w hv n ao cap hn h hl hr
  · exact Ref_Right_early p v w n ao cap hn h hr
end Go.Proofs.YtggeppmiifkikaaDoor
