/- An instance that is asked four times: what the document fixes. -/
import Derived.Test.YtbbdimlpofjlfaaGreatDoorQIn2
import Derived.KernelRfl
import Derived.Test.YtbbdimlpofjlfaaGreatDoorQDraw1
import Derived.Deep.DeepCutAuto
namespace Go.Proofs.YtbbdimlpofjlfaaGreatDoor
open Go Go.RowKit

def ia0 (k : Nat) : In := ⟨Ca.new k 2 0, 0, 0⟩
def ia1 (k : Nat) : In × Tape × Stp := (ia0 k).req [] ⟨#[97]⟩
def ia2 (k : Nat) : In × Tape × Stp := (ia1 k).1.req (ia1 k).2.1 ⟨#[97]⟩
def ia3 (k : Nat) : In × Tape × Stp := (ia2 k).1.req (ia2 k).2.1 ⟨#[98]⟩
def ia4 (k : Nat) : In × Tape × Stp := (ia3 k).1.req (ia3 k).2.1 ⟨#[99]⟩
/-- What is asked. -/
structure AwI (k : Nat) (x : ByteArray) (m : Nat) : Prop where
  two : (ia2 k).2.2 = ⟨true, bNil, false⟩
  four : (ia4 k).2.2 = ⟨false, x, true⟩
  len : (ia4 k).1.c.len = 2
  has : (ia4 k).1.c.has ⟨#[99]⟩ = true
  not : (ia4 k).1.c.has x = false
  n : (ia4 k).1.n = 4
  h : (ia4 k).1.h = 1
  w : (ia4 k).1.c.weight = (m, decide (4 < (k : Int)))
  kind : (ia4 k).1.c.kind = k
  most : (ia4 k).1.c.most = 2
  keys : (ia4 k).1.c.keys.length = 2
theorem awI_0 : AwI 0 (ia4 0).2.2.victim (ia4 0).1.c.weight.1 := ⟨by kernel_rfl, by kernel_rfl, by kernel_rfl, by kernel_rfl, by kernel_rfl, by kernel_rfl, by kernel_rfl, by kernel_rfl, by kernel_rfl, by kernel_rfl, by kernel_rfl⟩
theorem awI_1 : AwI 1 (ia4 1).2.2.victim (ia4 1).1.c.weight.1 := ⟨by kernel_rfl, by kernel_rfl, by kernel_rfl, by kernel_rfl, by kernel_rfl, by kernel_rfl, by kernel_rfl, by kernel_rfl, by kernel_rfl, by kernel_rfl, by kernel_rfl⟩
theorem awI_2 : AwI 2 (ia4 2).2.2.victim (ia4 2).1.c.weight.1 := ⟨by kernel_rfl, by kernel_rfl, by kernel_rfl, by kernel_rfl, by kernel_rfl, by kernel_rfl, by kernel_rfl, by kernel_rfl, by kernel_rfl, by kernel_rfl, by kernel_rfl⟩
theorem awI_3 : AwI 3 (ia4 3).2.2.victim (ia4 3).1.c.weight.1 := ⟨by kernel_rfl, by kernel_rfl, by kernel_rfl, by kernel_rfl, by kernel_rfl, by kernel_rfl, by kernel_rfl, by kernel_rfl, by kernel_rfl, by kernel_rfl, by kernel_rfl⟩
theorem awI_4 : AwI 4 (ia4 4).2.2.victim (ia4 4).1.c.weight.1 := ⟨by kernel_rfl, by kernel_rfl, by kernel_rfl, by kernel_rfl, by kernel_rfl, by kernel_rfl, by kernel_rfl, by kernel_rfl, by kernel_rfl, by kernel_rfl, by kernel_rfl⟩
theorem awI_5 : AwI 5 (ia4 5).2.2.victim (ia4 5).1.c.weight.1 := ⟨by kernel_rfl, by kernel_rfl, by kernel_rfl, by kernel_rfl, by kernel_rfl, by kernel_rfl, by kernel_rfl, by kernel_rfl, by kernel_rfl, by kernel_rfl, by kernel_rfl⟩
theorem awI_6 : AwI 6 (ia4 6).2.2.victim (ia4 6).1.c.weight.1 := ⟨by kernel_rfl, by kernel_rfl, by kernel_rfl, by kernel_rfl, by kernel_rfl, by kernel_rfl, by kernel_rfl, by kernel_rfl, by kernel_rfl, by kernel_rfl, by kernel_rfl⟩
theorem awI (k : Nat) (hk : k < 7) : ∃ x m, AwI k x m := by
  have key : k = 0 ∨ k = 1 ∨ k = 2 ∨ k = 3 ∨ k = 4 ∨ k = 5 ∨ k = 6 := by omega
  rcases key with rfl | rfl | rfl | rfl | rfl | rfl | rfl
  · exact ⟨_, _, awI_0⟩
  · exact ⟨_, _, awI_1⟩
  · exact ⟨_, _, awI_2⟩
  · exact ⟨_, _, awI_3⟩
  · exact ⟨_, _, awI_4⟩
  · exact ⟨_, _, awI_5⟩
  · exact ⟨_, _, awI_6⟩
theorem iaF (k : Nat) (hk : k < 7) : (ia0 k).c.Fit 0 ∧ ((ia1 k).1.c.Fit 4 ∧ tOk (ia1 k).2.1) ∧ ((ia2 k).1.c.Fit 8 ∧ tOk (ia2 k).2.1) ∧ ((ia3 k).1.c.Fit 12 ∧ tOk (ia3 k).2.1) ∧ ((ia4 k).1.c.Fit 16 ∧ tOk (ia4 k).2.1) := by
  have h0 : (ia0 k).c.Fit 0 := Ca.new_fit k 2 0 hk (by omega)
  have h1 := Ca.req_fit h0 tOk_nil ⟨#[97]⟩
  have h2 := Ca.req_fit (c := (ia1 k).1.c) h1.1 h1.2 ⟨#[97]⟩
  have h3 := Ca.req_fit (c := (ia2 k).1.c) h2.1 h2.2 ⟨#[98]⟩
  have h4 := Ca.req_fit (c := (ia3 k).1.c) h3.1 h3.2 ⟨#[99]⟩
  exact ⟨h0, h1, h2, h3, h4⟩
theorem In.req_n (x : In) (t : Tape) (k : ByteArray) (i : Int) (h : 0 ≤ x.n ∧ x.n ≤ i ∧ 0 ≤ x.h ∧ x.h ≤ i) : 0 ≤ (x.req t k).1.n ∧ (x.req t k).1.n ≤ i + 1 ∧ 0 ≤ (x.req t k).1.h ∧ (x.req t k).1.h ≤ i + 1 := by
  unfold In.req
  dsimp only
  split <;> omega
theorem iaN (k : Nat) : (0 ≤ (ia1 k).1.n ∧ (ia1 k).1.n ≤ 1 ∧ 0 ≤ (ia1 k).1.h ∧ (ia1 k).1.h ≤ 1) ∧ (0 ≤ (ia2 k).1.n ∧ (ia2 k).1.n ≤ 2 ∧ 0 ≤ (ia2 k).1.h ∧ (ia2 k).1.h ≤ 2) ∧ (0 ≤ (ia3 k).1.n ∧ (ia3 k).1.n ≤ 3 ∧ 0 ≤ (ia3 k).1.h ∧ (ia3 k).1.h ≤ 3) := by
  have h0 : 0 ≤ (ia0 k).n ∧ (ia0 k).n ≤ 0 ∧ 0 ≤ (ia0 k).h ∧ (ia0 k).h ≤ 0 := ⟨Int.le_refl _, Int.le_refl _, Int.le_refl _, Int.le_refl _⟩
  have h1 := In.req_n _ [] ⟨#[97]⟩ 0 h0
  have h2 := In.req_n _ (ia1 k).2.1 ⟨#[97]⟩ _ h1
  have h3 := In.req_n _ (ia2 k).2.1 ⟨#[98]⟩ _ h2
  exact ⟨h1, h2, h3⟩
end Go.Proofs.YtbbdimlpofjlfaaGreatDoor
/- The laws' awake, of instances. -/
namespace Go.Proofs.YtbbdimlpofjlfaaGreatDoor
open Go Go.RowKit

set_option maxRecDepth 100000
set_option maxHeartbeats 4000000
/-- A tape without lanes. -/
theorem Draw_No {g w : World} {F : List SProp} (h : Holds g w F) :
    Calls Tryz.prog 13 #[.slice none 0 0] w fun r w' => ∃ b, r = .returned (.pointer (some ⟨b, 0, none⟩)) ∧ Holds g w' (IsTape b [] :: F) :=
  (Draw_New (us := []) (ls := []) (h.ownNil 22 1) rfl (by simp) (by simp) (fun wx hx i u l hu => by simp at hu)).mono fun r w' ⟨b, hr, h1⟩ => ⟨b, hr, h1.p1.drop⟩
theorem In_NewT {g w : World} {F : List SProp} {tb : Nat} (kind : Nat) (hk : kind < 7) (h : Holds g w F) :
    Calls Tryz.prog 12 #[.int .i64 (kind : Nat), .int .i64 2, .pointer (some ⟨tb, 0, none⟩), .int .i64 0] w fun r w' => ∃ b, r = .returned (.tuple #[.pointer (some ⟨b, 0, none⟩), .nilIface]) ∧ Holds g w' (IsIn b tb (ia0 kind) :: F) := In_New kind hk 2 (by omega) 0 h
section
variable {g w : World} {F : List SProp} {b tb : Nat} {x : In}
theorem In_Count2 (h : Holds g w (IsIn b tb x :: F)) (n m : Int) (hn : x.n = n) (hm : x.h = m) :
    Calls Tryz.prog 16 #[.pointer (some ⟨b, 0, none⟩)] w fun r w' => r = .returned (.tuple #[.int .i64 n, .int .i64 m]) ∧ Keep w w' := by
  subst hn hm
  exact In_Count h
theorem In_Len2 (h : Holds g w (IsIn b tb x :: F)) (hn : x.c.len = 2) :
    Calls Tryz.prog 19 #[.pointer (some ⟨b, 0, none⟩)] w fun r w' => r = .returned (.int .i64 2) ∧ Keep w w' := In_Len h 2 hn (by omega)
theorem In_Most2 (h : Holds g w (IsIn b tb x :: F)) (hn : x.c.most = 2) :
    Calls Tryz.prog 27 #[.pointer (some ⟨b, 0, none⟩)] w fun r w' => r = .returned (.int .i64 2) ∧ Keep w w' := In_Most h 2 hn
/-- How many keys there are told. -/
theorem In_KeysN (h : Holds g w (IsIn b tb x :: F)) (i : Nat) (hf : x.c.Fit i) (hi : i < 100000) (n : Nat) (hn : x.c.keys.length = n) :
    Calls Tryz.prog 14 #[.pointer (some ⟨b, 0, none⟩)] w fun r w' => ∃ ao cap, r = .returned (.slice ao n cap) ∧ Holds g w' (IsIn b tb x :: F) := by
  refine (In_Keys h i hf hi).mono ?_
  rintro r w' ⟨v, rfl, h1⟩
  obtain ⟨ao, cap, rfl⟩ := (show RowAt w' v (strs x.c.keys) from Holds.rowAt (by unfold OwnStrs at h1; exact h1)).shape
  exact ⟨ao, cap, by rw [strs_length, hn], h1.drop⟩
end
section
variable {g w : World} {F : List SProp} {k : Nat} {b tb : Nat}
theorem IaReq1 (hk : k < 7) (h : Holds g w (IsIn b tb (ia0 k) :: IsTape tb [] :: F)) :
    Calls Tryz.prog 15 #[.pointer (some ⟨b, 0, none⟩), .string ⟨#[97]⟩] w fun r w' => r = .returned (stepV (ia1 k).2.2) ∧ Holds g w' (IsIn b tb (ia1 k).1 :: IsTape tb (ia1 k).2.1 :: F) :=
  In_Request h ⟨#[97]⟩ 0 (iaF k hk).1 (by omega) tOk_nil (by unfold ia0; dsimp only; omega)
theorem IaReq2 (hk : k < 7) (h : Holds g w (IsIn b tb (ia1 k).1 :: IsTape tb (ia1 k).2.1 :: F)) (hs : (ia2 k).2.2 = ⟨true, bNil, false⟩) :
    Calls Tryz.prog 15 #[.pointer (some ⟨b, 0, none⟩), .string ⟨#[97]⟩] w fun r w' => r = .returned (.agg #[.bool true, .string ⟨#[]⟩, .bool false]) ∧ Holds g w' (IsIn b tb (ia2 k).1 :: IsTape tb (ia2 k).2.1 :: F) := by
  have c := In_Request h ⟨#[97]⟩ 4 (iaF k hk).2.1.1 (by omega) (iaF k hk).2.1.2 (by have := (iaN k).1; omega)
  rw [show ((ia1 k).1.req (ia1 k).2.1 ⟨#[97]⟩).2.2 = ⟨true, bNil, false⟩ from hs] at c
  exact c
theorem IaReq3 (hk : k < 7) (h : Holds g w (IsIn b tb (ia2 k).1 :: IsTape tb (ia2 k).2.1 :: F)) :
    Calls Tryz.prog 15 #[.pointer (some ⟨b, 0, none⟩), .string ⟨#[98]⟩] w fun r w' => r = .returned (stepV (ia3 k).2.2) ∧ Holds g w' (IsIn b tb (ia3 k).1 :: IsTape tb (ia3 k).2.1 :: F) :=
  In_Request h ⟨#[98]⟩ 8 (iaF k hk).2.2.1.1 (by omega) (iaF k hk).2.2.1.2 (by have := (iaN k).2.1; omega)
theorem IaReq4 {x : ByteArray} (hk : k < 7) (h : Holds g w (IsIn b tb (ia3 k).1 :: IsTape tb (ia3 k).2.1 :: F)) (hs : (ia4 k).2.2 = ⟨false, x, true⟩) :
    Calls Tryz.prog 15 #[.pointer (some ⟨b, 0, none⟩), .string ⟨#[99]⟩] w fun r w' => r = .returned (.agg #[.bool false, .string x, .bool true]) ∧ Holds g w' (IsIn b tb (ia4 k).1 :: IsTape tb (ia4 k).2.1 :: F) := by
  have c := In_Request h ⟨#[99]⟩ 12 (iaF k hk).2.2.2.1.1 (by omega) (iaF k hk).2.2.2.1.2 (by have := (iaN k).2.2; omega)
  rw [show ((ia3 k).1.req (ia3 k).2.1 ⟨#[99]⟩).2.2 = ⟨false, x, true⟩ from hs] at c
  exact c
end
theorem iaS {g w : World} {F : List SProp} {A B : SProp} {rA rB : Nat} {x : ByteArray} {t u : TypeId} (h : Holds g w (A :: B :: pts rB (.cells #[.bool false, .string x, .bool true] t) :: pts rA (.cells #[.bool true, .string ⟨#[]⟩, .bool false] u) :: F)) :
    (w.cell? ⟨rB, 0, none⟩ = some (.bool false) ∧ w.cell? ⟨rB, 1, none⟩ = some (.string x) ∧ w.cell? ⟨rB, 2, none⟩ = some (.bool true)) ∧ (w.cell? ⟨rA, 0, none⟩ = some (.bool true) ∧ w.cell? ⟨rA, 1, none⟩ = some (.string ⟨#[]⟩) ∧ w.cell? ⟨rA, 2, none⟩ = some (.bool false)) :=
  ⟨cells3 h.p2, cells3 h.p3⟩
theorem awake11 (w : World) (hE : Env w) : Calls Tryz.prog 11 #[] w fun r w' => r = .returned (.bool true) ∧ Keep w w' := by
  have hE := hide hE
  have h := hide (Holds.start w)
  go_enter Tryz.func11, Tryz.ntmps11
  go_wp2
  go_loopg [1] (7) (fun c v wr => ∃ k : Nat, Hide (7 - k = c) ∧ k ≤ 7 ∧ v = .int .i64 (k : Nat) ∧ Holds w wr [])
  case atStart => exact ⟨0, ⟨rfl⟩, by omega, rfl, h.out⟩
  case round =>
    clear h
    obtain ⟨k, hck, hk7, rfl, h⟩ := hrel
    have h := hide h
    by_cases hk6 : k < 7
    · have hkI : (k : Int) < 7 := by omega
      have hk6H := hide hk6
      have e1 : IntKind.i64.wrap ((k : Int) + 1) = ((k + 1 : Nat) : Int) := by rw [IntWalk.i64_in _ (by omega)]; omega
      obtain ⟨x, m, fc⟩ := awI k hk6
      obtain ⟨d, hd⟩ : ∃ d, decide (4 < (k : Int)) = d := ⟨_, rfl⟩
      have fw := hide fc.w
      rw [hd] at fw
      replace fc := hide fc
      clear hk7 hk6
      go_upto_region 11 with (first
        | (go_at_call 13; (with_reducible refine (Draw_No h.out).mono ?_); rintro r w0 ⟨tb, rfl, h0⟩; have h0 := hide h0)
        | (go_at_call 12; (with_reducible refine (In_NewT (tb := tb) k hk6H.out h0.out).mono ?_); rintro r w1 ⟨b, rfl, h1⟩; have h1 := hide h1)
        | (go_at_call 15; (with_reducible refine (IaReq1 hk6H.out h1.out).mono ?_); rintro r w2 ⟨rfl, h2⟩; have h2 := hide h2)
        | (go_at_call 15; (with_reducible refine (IaReq2 hk6H.out h2.out fc.out.two).mono ?_); rintro r w3 ⟨rfl, h3⟩; have h3 := hide (h3.alloc (o := .cells #[.bool true, .string ⟨#[]⟩, .bool false] 34)).p2.p2)
        | (go_at_call 15; (with_reducible refine (IaReq3 hk6H.out h3.out).mono ?_); rintro r w4 ⟨rfl, h4⟩; have h4 := hide h4)
        | (go_at_call 15; (with_reducible refine (IaReq4 hk6H.out h4.out fc.out.four).mono ?_); rintro r w5 ⟨rfl, h5⟩; have h5 := hide (h5.alloc (o := .cells #[.bool false, .string x, .bool true] 34)).p2.p2))
      obtain ⟨rA, hrA⟩ : ∃ r, w3.heap.size = r := ⟨_, rfl⟩
      obtain ⟨rB, hrB⟩ : ∃ r, w5.heap.size = r := ⟨_, rfl⟩
      rw [hrA, hrB] at h5
      simp only [hrA, hrB]
      generalize w5.alloc (.cells #[.bool false, .string x, .bool true] 34) = W5 at h5 ⊢
      clear hrA hrB h0 h1 h2 h3 h4
      go_upto_region 13 with (first
        | (go_at_call 16; (with_reducible refine (In_Count2 h5.out 4 1 fc.out.n fc.out.h).mono ?_); rintro r w6 ⟨rfl, k6⟩; have h6 := hide (h5.out.keep k6); clear k6)
        | (go_at_call 41; (with_reducible refine (In_Weight h6.out m d fw.out).mono ?_); rintro r w7 ⟨rfl, k7⟩; have h7 := hide (h6.out.keep k7); clear k7))
      obtain ⟨⟨s0, s1, s2⟩, ⟨s3, s4, s5⟩⟩ := iaS h7.out
      clear h5 h6
      go_cut [102] (fun v wx => v = .bool false ∧ Holds w wx [])
      case first =>
        cases d
        all_goals
          go_wp2_with (first
              | (go_at_call 19; (with_reducible refine (In_Len2 h7.out fc.out.len).mono ?_); rintro r w8 ⟨rfl, k8⟩; have h8 := hide (h7.out.keep k8); obtain ⟨⟨s0, s1, s2⟩, ⟨s3, s4, s5⟩⟩ := iaS h8.out; clear k8)
              | (go_at_call 18; (with_reducible refine (In_Has h8.out ⟨#[99]⟩ true fc.out.has).mono ?_); rintro r w9 ⟨rfl, k9⟩; have h9 := hide (h8.out.keep k9); obtain ⟨⟨s0, s1, s2⟩, ⟨s3, s4, s5⟩⟩ := iaS h9.out; clear k9)
              | (go_at_call 18; (with_reducible refine (In_Has h9.out x false fc.out.not).mono ?_); rintro r w10 ⟨rfl, k10⟩; have h10 := hide (h9.out.keep k10); obtain ⟨⟨s0, s1, s2⟩, ⟨s3, s4, s5⟩⟩ := iaS h10.out; clear k10)
              | (go_at_call 42; (with_reducible refine (In_Kind h10.out _ fc.out.kind).mono ?_); rintro r w11 ⟨rfl, k11⟩; have h11 := hide (h10.out.keep k11); clear k11)
              | (go_at_call 27; (with_reducible refine (In_Most2 h11.out fc.out.most).mono ?_); rintro r w12 ⟨rfl, k12⟩; have h12 := hide (h11.out.keep k12); clear k12)
              | (go_at_call 14; (with_reducible refine (In_KeysN h12.out 16 (iaF k hk6H.out).2.2.2.2.1 (by omega) 2 fc.out.keys).mono ?_); rintro r w13 ⟨ao, cap, rfl, h13⟩; have h13 := hide h13))
          all_goals
            clear s0 s1 s2 s3 s4 s5
            go_wp2
            go_meet
            case rel => exact ⟨rfl, h13.out.nil⟩
      case rest =>
        obtain ⟨rfl, hc⟩ := hcut
        have hc := hide hc
        go_wp2
        go_roundg (7 - (k + 1))
        case measure => rw [← hck.out]; have := hk6H.out; omega
        case rel => exact ⟨k + 1, ⟨rfl⟩, by have := hk6H.out; omega, rfl, hc.out⟩
    · have e7 : k = 7 := by omega
      subst e7
      have bad1 : ((7 : Int) < 0 ∨ 4 < (7 : Int)) := by omega
      have bad2 : ((-1 : Int) < 0 ∨ (16777216 : Int) < -1) := by omega
      have cA := hide (fun (t : Value) (w : World) => by
        have c := In_NewNoP 7 1 (by omega) (by omega) 7 t 0 w (Pol_New_kind 7 1 bad1 w)
        rw [show polName 7 = (⟨#[]⟩ : ByteArray) from rfl] at c
        exact c)
      have cB := hide (fun (t : Nat) (w : World) => by
        have c := In_NewNoL 6 (-1) (.inr rfl) (.pointer (some ⟨t, 0, none⟩)) 0 w (Ln_New_size6 (-1) bad2 t 0 w)
        rw [show polName 6 = (⟨#[67, 65, 67, 72, 69, 85, 83]⟩ : ByteArray) from rfl] at c
        exact c)
      clear bad1 bad2
      go_wp2_with (first
        | (go_at_call 13; (with_reducible refine (Draw_No h.out).mono ?_); rintro r w1 ⟨tb, rfl, h1⟩; have h1 := hide h1.toKeep)
        | (go_at_call 12; (with_reducible refine (cA.out _ _).mono ?_); rintro r w2 ⟨v2, rfl, k2, he2⟩; have h2 := hide (h1.out.trans k2); have he2 := hide he2; clear k2)
        | (go_at_call 13; (with_reducible refine (Draw_No (Holds.start w2)).mono ?_); rintro r w3 ⟨tb3, rfl, h3⟩; have h3 := hide h3.toKeep)
        | (go_at_call 12; (with_reducible refine (cB.out _ _).mono ?_); rintro r w4 ⟨v4, rfl, k4, he4⟩; have h4 := hide (h3.out.trans k4); have he4 := hide he4; clear k4)
        | (go_at_call 32; (with_reducible refine (Faulty_hit ⟨#[]⟩ bPolicy 7 v2 _ (hE.out.keep (h2.out.trans h4.out)) (by decide) (he2.out.keep h4.out)).mono ?_); rintro r w5 ⟨rfl, k5⟩; have k5 := hide k5)
        | (go_at_call 32; (with_reducible refine (Faulty_hit ⟨#[67, 65, 67, 72, 69, 85, 83]⟩ bLearn 1 v4 _ (hE.out.keep ((h2.out.trans h4.out).trans k5.out)) (by decide) (he4.out.keep k5.out)).mono ?_); rintro r w6 ⟨rfl, k6⟩; have k6 := hide k6))
      go_ret
      exact ⟨rfl, ((h2.out.trans h4.out).trans k5.out).trans k6.out⟩
end Go.Proofs.YtbbdimlpofjlfaaGreatDoor
