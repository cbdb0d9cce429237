/- The laws' awake, of learners. -/
import Derived.Test.YteledfiechbhgaaGreatDoorQLn9
import Derived.Test.YteledfiechbhgaaGreatDoorQLn7
import Derived.Test.YteledfiechbhgaaGreatDoorQTwLearn
import Derived.Deep.DeepCutAuto
namespace Go.Proofs.YteledfiechbhgaaGreatDoor
open Go Go.RowKit

set_option maxRecDepth 100000
set_option maxHeartbeats 2000000
theorem Made2 {g w : World} {F : List SProp} {q : Nat} (kind : Int) (hk : kind = 5 ∨ kind = 6) (h : Holds g w (OwnRow 28 1 (.slice (some ⟨q, 0, none⟩) 2 2) 2 [.int .u64 0, .int .u64 18446744073709551615] :: F)) :
    Calls Tryz.prog 12 #[.int .i64 kind, .int .i64 2, .slice (some ⟨q, 0, none⟩) 2 2] w fun r w' => ∃ b tb, r = .returned (.pointer (some ⟨b, 0, none⟩)) ∧ Holds g w' (IsLn b tb (Ln.new kind 2 awT 0) :: IsTape tb awT :: F) :=
  (Made kind hk 2 (by omega) _ [0, 18446744073709551615] (by decide) (fun wx hx => .inl hx.rowAt) h).mono fun r w' ⟨b, tb, hr, h1⟩ => ⟨b, tb, hr, h1.p2.drop⟩
section
variable {g w : World} {F : List SProp} {k : Int} {b tb : Nat}
theorem AwReq1 (h : Holds g w (IsLn b tb (Ln.new k 2 awT 0) :: IsTape tb awT :: F)) :
    Calls Tryz.prog 17 #[.pointer (some ⟨b, 0, none⟩), .string ⟨#[97]⟩] w fun r w' => r = .returned (stepV (aw1 k).2) ∧ Holds g w' (IsLn b tb (aw1 k).1 :: IsTape tb (aw1 k).1.tape :: F) :=
  Ln_Request h ⟨#[97]⟩ 0 (Ln.new_fit k 2 awT 0 awT_lt) (by omega) (aw_most k).1
theorem AwReq2 (h : Holds g w (IsLn b tb (aw1 k).1 :: IsTape tb (aw1 k).1.tape :: F)) (hs : (aw2 k).2 = ⟨true, bNil, false⟩) :
    Calls Tryz.prog 17 #[.pointer (some ⟨b, 0, none⟩), .string ⟨#[97]⟩] w fun r w' => r = .returned (.agg #[.bool true, .string ⟨#[]⟩, .bool false]) ∧ Holds g w' (IsLn b tb (aw2 k).1 :: IsTape tb (aw2 k).1.tape :: F) := by
  have c := Ln_Request h ⟨#[97]⟩ 4 (aw_fit k).1 (by omega) (aw_most k).2.1
  rw [show ((aw1 k).1.req ⟨#[97]⟩).2 = ⟨true, bNil, false⟩ from hs] at c
  exact c
theorem AwReq3 (h : Holds g w (IsLn b tb (aw2 k).1 :: IsTape tb (aw2 k).1.tape :: F)) :
    Calls Tryz.prog 17 #[.pointer (some ⟨b, 0, none⟩), .string ⟨#[98]⟩] w fun r w' => r = .returned (stepV (aw3 k).2) ∧ Holds g w' (IsLn b tb (aw3 k).1 :: IsTape tb (aw3 k).1.tape :: F) :=
  Ln_Request h ⟨#[98]⟩ 8 (aw_fit k).2.1 (by omega) (aw_most k).2.2.1
theorem AwReq4 {x : ByteArray} (h : Holds g w (IsLn b tb (aw3 k).1 :: IsTape tb (aw3 k).1.tape :: F)) (hs : (aw4 k).2 = ⟨false, x, true⟩) :
    Calls Tryz.prog 17 #[.pointer (some ⟨b, 0, none⟩), .string ⟨#[99]⟩] w fun r w' => r = .returned (.agg #[.bool false, .string x, .bool true]) ∧ Holds g w' (IsLn b tb (aw4 k).1 :: IsTape tb (aw4 k).1.tape :: F) := by
  have c := Ln_Request h ⟨#[99]⟩ 12 (aw_fit k).2.2.1 (by omega) (aw_most k).2.2.2.1
  rw [show ((aw3 k).1.req ⟨#[99]⟩).2 = ⟨false, x, true⟩ from hs] at c
  exact c
theorem AwReq5 {x : ByteArray} (h : Holds g w (IsLn b tb (aw4 k).1 :: IsTape tb (aw4 k).1.tape :: F)) (hs : (aw4 k).2 = ⟨false, x, true⟩) :
    Calls Tryz.prog 17 #[.pointer (some ⟨b, 0, none⟩), .string x] w fun r w' => r = .returned (stepV (aw5 k).2) ∧ Holds g w' (IsLn b tb (aw5 k).1 :: IsTape tb (aw5 k).1.tape :: F) := by
  have c := Ln_Request h x 16 (aw_fit k).2.2.2.1 (by omega) (aw_most k).2.2.2.2
  have e : aw5 k = (aw4 k).1.req x := by unfold aw5; rw [hs]
  rw [← e] at c
  exact c
end
theorem awS {g w : World} {F : List SProp} {A B : SProp} {rA rB : Nat} {x : ByteArray} {t u : TypeId} (h : Holds g w (A :: B :: pts rB (.cells #[.bool false, .string x, .bool true] t) :: pts rA (.cells #[.bool true, .string ⟨#[]⟩, .bool false] u) :: F)) :
    (w.cell? ⟨rB, 0, none⟩ = some (.bool false) ∧ w.cell? ⟨rB, 1, none⟩ = some (.string x) ∧ w.cell? ⟨rB, 2, none⟩ = some (.bool true)) ∧ (w.cell? ⟨rA, 0, none⟩ = some (.bool true) ∧ w.cell? ⟨rA, 1, none⟩ = some (.string ⟨#[]⟩) ∧ w.cell? ⟨rA, 2, none⟩ = some (.bool false)) :=
  ⟨cells3 h.p2, cells3 h.p3⟩
section
variable {g w : World} {F : List SProp} {b tb : Nat} {s : Ln}
theorem Ln_Len2 (h : Holds g w (IsLn b tb s :: F)) (hn : s.len = 2) :
    Calls Tryz.prog 18 #[.pointer (some ⟨b, 0, none⟩)] w fun r w' => r = .returned (.int .i64 2) ∧ Keep w w' :=
  (Ln_Len h 2 hn (by omega)).mono fun r w' ⟨hr, m, hm⟩ => ⟨hr, by rw [hm]; exact (Keep.refl w).drewN⟩
theorem Ln_Most2 (h : Holds g w (IsLn b tb s :: F)) (hn : s.most = 2) :
    Calls Tryz.prog 28 #[.pointer (some ⟨b, 0, none⟩)] w fun r w' => r = .returned (.int .i64 2) ∧ w = w' := Ln_Most h 2 hn
theorem Ln_WeightH (h : Holds g w (IsLn b tb s :: F)) (hn : s.w = 2305843009213693952) :
    Calls Tryz.prog 14 #[.pointer (some ⟨b, 0, none⟩)] w fun r w' => r = .returned (.int .u64 2305843009213693952) ∧ w = w' := Ln_Weight h 2305843009213693952 hn
theorem Ln_Ghosts1 {x : ByteArray} (h : Holds g w (IsLn b tb s :: F)) (hg : s.ghosts = [x]) :
    Calls Tryz.prog 16 #[.pointer (some ⟨b, 0, none⟩)] w fun r w' => ∃ q cap, r = .returned (.slice (some ⟨q, 0, none⟩) 1 cap) ∧ w'.cell? ⟨q, 0, none⟩ = some (.string x) ∧ Holds g w' (IsLn b tb s :: F) := by
  have hl := congrArg List.length hg
  unfold Ln.ghosts at hl
  rw [List.length_append] at hl
  refine (Ln_Ghosts h (by simp at hl; omega)).mono ?_
  rintro r w' ⟨v, rfl, h1⟩
  rw [hg] at h1
  unfold OwnStrs at h1
  rcases h1.rowShape with ⟨_, h0, _⟩ | ⟨q, cap, rfl⟩
  · cases h0
  · exact ⟨q, cap, rfl, h1.rowCell (j := 0) rfl, h1.drop⟩
end
/-- What is asked of a learner of a kind. -/
structure AwF (k : Int) (x : ByteArray) (W : Nat) : Prop where
  out : (aw2 k).2 = ⟨true, bNil, false⟩ ∧ (aw4 k).2 = ⟨false, x, true⟩ ∧ (aw4 k).1.len = 2 ∧ (aw4 k).1.has ⟨#[99]⟩ = true ∧ (aw4 k).1.ghosts = [x] ∧ (aw4 k).1.w = 2305843009213693952 ∧ (aw4 k).1.kind = k ∧ (aw4 k).1.most = 2
  w : (aw5 k).1.w = W
  lt : W < 2305843009213693952
theorem awF (k : Int) (hk : k = 5 ∨ k = 6) : ∃ x W, AwF k x W := by
  rcases hk with rfl | rfl
  · exact ⟨_, _, aw_5, rfl, aw5_5⟩
  · exact ⟨_, _, aw_6, rfl, aw5_6⟩
theorem awake10 (w : World) (hE : Env w) : Calls Tryz.prog 11 #[] w fun r w' => r = .returned (.bool true) ∧ Keep w w' := by
  have hE := hide hE
  have h := hide (Holds.start w)
  go_enter Tryz.func11, Tryz.ntmps11
  go_wp2
  go_loopg [1] (2) (fun c v wr => ∃ k : Int, Hide ((7 - k).toNat = c) ∧ 5 ≤ k ∧ k ≤ 7 ∧ v = .int .i64 k ∧ Holds w wr [])
  case atStart => exact ⟨5, ⟨rfl⟩, by omega, by omega, rfl, h.out⟩
  case round =>
    clear h
    obtain ⟨k, hck, hk5, hk7, rfl, h⟩ := hrel
    have h := hide h
    by_cases hk6 : k ≤ 6
    · have hk56 : Hide (k = 5 ∨ k = 6) := ⟨by omega⟩
      have e1 : IntKind.i64.wrap (k + 1) = k + 1 := IntWalk.i64_in _ (by omega)
      obtain ⟨x, W, fc⟩ := awF k hk56.out
      have hw5 := hide fc.w
      have hlt := fc.lt
      have hlt' : decide ((2305843009213693952 : Int) ≤ (W : Int)) = false := decide_eq_false (by omega)
      replace fc := hide fc.out
      clear hlt hk5 hk7
      go_upto_region 11 with (first
        | (go_at_call 12; (with_reducible refine (Made2 k hk56.out (Holds.two (h.out.alloc (o := .cells #[.int .u64 0, .int .u64 18446744073709551615] 28)))).mono ?_); rintro r w1 ⟨b, tb, rfl, h1⟩; have h1 := hide h1)
        | (go_at_call 17; (with_reducible refine (AwReq1 h1.out).mono ?_); rintro r w2 ⟨rfl, h2⟩; have h2 := hide h2)
        | (go_at_call 17; (with_reducible refine (AwReq2 h2.out fc.out.1).mono ?_); rintro r w3 ⟨rfl, h3⟩; have h3 := hide (h3.alloc (o := .cells #[.bool true, .string ⟨#[]⟩, .bool false] 36)).p2.p2)
        | (go_at_call 17; (with_reducible refine (AwReq3 h3.out).mono ?_); rintro r w4 ⟨rfl, h4⟩; have h4 := hide h4)
        | (go_at_call 17; (with_reducible refine (AwReq4 h4.out fc.out.2.1).mono ?_); rintro r w5 ⟨rfl, h5⟩; have h5 := hide (h5.alloc (o := .cells #[.bool false, .string x, .bool true] 36)).p2.p2))
      obtain ⟨rA, hrA⟩ : ∃ r, w3.heap.size = r := ⟨_, rfl⟩
      obtain ⟨rB, hrB⟩ : ∃ r, w5.heap.size = r := ⟨_, rfl⟩
      rw [hrA, hrB] at h5
      simp only [hrA, hrB]
      generalize w5.alloc (.cells #[.bool false, .string x, .bool true] 36) = W5 at h5 ⊢
      obtain ⟨⟨s0, s1, s2⟩, ⟨s3, s4, s5⟩⟩ := awS h5.out
      go_cut [74] (fun v wx => v = .bool false ∧ Holds w wx (IsLn b tb (aw4 k).1 :: IsTape tb (aw4 k).1.tape :: pts rB (.cells #[.bool false, .string x, .bool true] 36) :: pts rA (.cells #[.bool true, .string ⟨#[]⟩, .bool false] 36) :: []))
      case first =>
        go_region_with
          ((first
            | (go_at_call 18; (with_reducible refine (Ln_Len2 h5.out.drew fc.out.2.2.1).mono ?_); rintro r w6 ⟨rfl, k6⟩; have h6 := hide (h5.out.drew.keep k6); obtain ⟨⟨s0, s1, s2⟩, ⟨s3, s4, s5⟩⟩ := awS h6.out; clear k6)
            | (go_at_call 25; (with_reducible refine (Ln_Has h6.out _ true fc.out.2.2.2.1).mono ?_); rintro r w7 ⟨rfl, k7⟩; have h7 := hide (h6.out.keep k7); obtain ⟨⟨s0, s1, s2⟩, ⟨s3, s4, s5⟩⟩ := awS h7.out; clear k7)
            | (go_at_call 16; (with_reducible refine (Ln_Ghosts1 h7.out fc.out.2.2.2.2.1).mono ?_); rintro r w8 ⟨q8, cap8, rfl, c8, h8⟩; have h8 := hide h8; obtain ⟨⟨s0, s1, s2⟩, ⟨s3, s4, s5⟩⟩ := awS h8.out)
            | (go_at_call 16; (with_reducible refine (Ln_Ghosts1 h8.out fc.out.2.2.2.2.1).mono ?_); rintro r w9 ⟨q9, cap9, rfl, c9, h9⟩; have h9 := hide h9; obtain ⟨⟨s0, s1, s2⟩, ⟨s3, s4, s5⟩⟩ := awS h9.out)
            | (go_at_call 14; (with_reducible refine (Ln_WeightH h9.out fc.out.2.2.2.2.2.1).mono ?_); rintro r w10 ⟨rfl, rfl⟩)
            | (go_at_call 43; (with_reducible refine (Ln_Kind h9.out k fc.out.2.2.2.2.2.2.1).mono ?_); rintro r w11 ⟨rfl, rfl⟩)
            | (go_at_call 28; (with_reducible refine (Ln_Most2 h9.out fc.out.2.2.2.2.2.2.2).mono ?_); rintro r w12 ⟨rfl, rfl⟩)))
        all_goals
          clear s0 s1 s2 s3 s4 s5 c8 c9
          go_wp2
          go_meet
          case rel => exact ⟨rfl, h9.out⟩
      case rest =>
        obtain ⟨rfl, hc⟩ := hcut
        have hc := hide hc
        have s1 : wc.cell? ⟨rB, 1, none⟩ = some (.string x) := (awS hc.out).1.2.1
        go_wp2_with (first
          | (go_at_call 17; (with_reducible refine (AwReq5 hc.out fc.out.2.1).mono ?_); rintro r w13 ⟨rfl, h13⟩; have h13 := hide h13)
          | (go_at_call 14; (with_reducible refine (Ln_Weight h13.out W hw5.out).mono ?_); rintro r w14 ⟨rfl, rfl⟩))
        go_roundg (7 - (k + 1)).toNat
        case measure => rw [← hck.out]; have := hk56.out; omega
        case rel => exact ⟨k + 1, ⟨rfl⟩, by have := hk56.out; omega, by have := hk56.out; omega, rfl, h13.out.nil⟩
    · have e7 : k = 7 := by omega
      subst e7
      go_wp2_with (first
        | (go_at_call 30; (with_reducible refine (Draw_New (us := []) (ls := []) (h.out.ownNil 22 1) rfl (by simp) (by simp) (fun wx hx i u l hu => by simp at hu)).mono ?_); rintro r w1 ⟨tb, rfl, h1⟩; have h1 := hide h1.toKeep)
        | (go_at_call 29; (with_reducible refine (Ln_New_kind 4 1 (by omega) (by omega) _ 0 _).mono ?_); rintro r w2 ⟨v2, rfl, k2, he2⟩; have h2 := hide (h1.out.trans k2); have he2 := hide he2; clear k2)
        | (go_at_call 30; (with_reducible refine (Draw_New (us := []) (ls := []) ((Holds.start w2).ownNil 22 1) rfl (by simp) (by simp) (fun wx hx i u l hu => by simp at hu)).mono ?_); rintro r w3 ⟨tb3, rfl, h3⟩; have h3 := hide h3.toKeep)
        | (go_at_call 29; (with_reducible refine (Ln_New_size5 (-1) (by omega) _ 0 _).mono ?_); rintro r w4 ⟨v4, rfl, k4, he4⟩; have h4 := hide (h3.out.trans k4); have he4 := hide he4; clear k4)
        | (go_at_call 32; (with_reducible refine (Wraps_hit _ _ 7 v2 _ (hE.out.keep (h2.out.trans h4.out)) (by decide) (he2.out.keep h4.out)).mono ?_); rintro r w5 ⟨rfl, k5⟩; have k5 := hide k5)
        | (go_at_call 32; (with_reducible refine (Wraps_hit _ _ 1 v4 _ (hE.out.keep ((h2.out.trans h4.out).trans k5.out)) (by decide) (he4.out.keep k5.out)).mono ?_); rintro r w6 ⟨rfl, k6⟩; have k6 := hide k6))
      go_ret
      exact ⟨rfl, ((h2.out.trans h4.out).trans k5.out).trans k6.out⟩
end Go.Proofs.YteledfiechbhgaaGreatDoor
