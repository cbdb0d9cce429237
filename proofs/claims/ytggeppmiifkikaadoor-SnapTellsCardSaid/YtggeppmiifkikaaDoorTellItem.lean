/- The document's item at the front of bytes. -/
import Derived.Test.YtggeppmiifkikaaDoorTellNum
import Derived.Test.YtggeppmiifkikaaDoorSnapParse0
import Derived.Test.YtggeppmiifkikaaDoorSnapRight
namespace Go.Proofs.YtggeppmiifkikaaDoor
open Go Go.RowKit Go.Shelf

theorem infoRefItem' : (Tryd.prog.info? 76).map (·.size) = some 3 := by kernel_rfl
theorem threeCells {g w : World} {b : Nat} {t : TypeId} {F : List SProp} {v0 v1 v2 : Value} (h : Holds g w (pts b (.cells #[v0, v1, v2] t) :: F)) :
    w.cell? ⟨b, 0, none⟩ = some v0 ∧ w.cell? ⟨b, 1, none⟩ = some v1 ∧ w.cell? ⟨b, 2, none⟩ = some v2 := ⟨h.cell rfl, h.cell rfl, h.cell rfl⟩
theorem threeFree {g w : World} {b : Nat} {cs : Array Value} {t : TypeId} {F : List SProp} (h : Holds g w (pts b (.cells cs t) :: F)) :
    w.frozen? ⟨b, 0, none⟩ = false ∧ w.frozen? ⟨b, 1, none⟩ = false ∧ w.frozen? ⟨b, 2, none⟩ = false := ⟨h.free, h.free, h.free⟩
theorem setTo' {g w : World} {b off : Nat} {v : Value} {cs cs' : Array Value} {t : TypeId} {F : List SProp} (h : Holds g w (pts b (.cells cs t) :: F)) (hc : cs.setIfInBounds off v = cs') : Holds g (w.setCell ⟨b, off, none⟩ v) (pts b (.cells cs' t) :: F) := by
  rw [← hc]; exact h.setCell
theorem set3 {g w : World} {b : Nat} {t : TypeId} {F : List SProp} {u0 u1 u2 : Value} (h : Holds g w (pts b (.cells #[u0, u1, u2] t) :: F)) (v0 v1 v2 : Value) :
    Holds g (((w.setCell ⟨b, 0, none⟩ v0).setCell ⟨b, 1, none⟩ v1).setCell ⟨b, 2, none⟩ v2) (pts b (.cells #[v0, v1, v2] t) :: F) :=
  setTo' (setTo' (setTo' h (off := 0) (v := v0) (by simp; rfl)) (off := 1) (v := v1) (by simp; rfl)) (off := 2) (v := v2) (by simp)
theorem ret_item {g w : World} {b : Nat} {F : List SProp} {v0 v1 v2 : Value} {tmps : Array Value} (h : Holds g w (pts b (.cells #[v0, v1, v2] 76) :: F))
    (hp : tmps.getD 2 undef = .pointer (some ⟨b, 0, none⟩)) : (results Tryd.f38 tmps).run Tryd.prog w = .ok (.tuple #[.agg #[v0, v1, v2], tmps.getD 3 undef, tmps.getD 4 undef]) w := by
  have hp' : tmps[2]?.getD undef = .pointer (some ⟨b, 0, none⟩) := by simpa using hp
  simp [results, hp', asAddr, run_loadVar_row w b 76 76 _ (0, 0) _ h.block Tryd.underlying76 rfl infoRefItem']
/-- What item tells. -/
def ItemQ (r : List UInt8) (e : Ending) : Prop :=
  (itD r = none ∧ ∃ k v d, e = .returned (.tuple #[.agg #[.string k, .string v, .int .i64 d], .string ⟨#[]⟩, .bool false])) ∨
    ∃ (x : It) (r1 : List UInt8), itD r = some (x, r1) ∧ e = .returned (.tuple #[.agg #[.string x.key, .string x.val, .int .i64 x.dl], .string ⟨r1.toArray⟩, .bool true])
set_option maxRecDepth 100000 in
set_option maxHeartbeats 4000000 in
theorem Ref_itemD (r : List UInt8) (hr : r.length ≤ 100000) (w : World) :
    Calls Tryd.prog 38 #[.string ⟨r.toArray⟩] w fun e w' => ItemQ r e ∧ Keep w w' := by
  obtain ⟨Q, hQ⟩ : ∃ Q : Ending → Prop, ItemQ r = Q := ⟨_, rfl⟩
  rw [hQ]
  have hno : itD r = none → ∀ k v d, Q (.returned (.tuple #[.agg #[.string k, .string v, .int .i64 d], .string ⟨#[]⟩, .bool false])) := fun h k v d => by rw [← hQ]; exact .inl ⟨h, k, v, d, rfl⟩
  have hyes : ∀ x r1, itD r = some (x, r1) → Q (.returned (.tuple #[.agg #[.string x.key, .string x.val, .int .i64 x.dl], .string ⟨r1.toArray⟩, .bool true])) := fun x r1 h => by rw [← hQ]; exact .inr ⟨x, r1, h, rfl⟩
  have hyes := hide hyes
  have hno := hide hno
  clear hQ
  have H0 := ((Holds.start w).alloc (o := .cells #[.string ⟨#[]⟩, .string ⟨#[]⟩, .int .i64 0] 76)).alloc (o := .cells #[.string ⟨#[]⟩, .string ⟨#[]⟩, .int .i64 0] 76)
  simp only [World.size_alloc] at H0
  have H0' := hide H0
  have H0 := hide H0
  rcases hd1 : numD 1 r with _ | ⟨n1, r1⟩
  · have hi : itD r = none := by unfold itD; rw [hd1]; rfl
    have hi := hide hi
    go_enter Tryd.func38, Tryd.ntmps38
    go_wp2_with (first
      | (go_at_call 37; (with_reducible refine (num1_no r hd1 hr _).mono ?_); rintro e w1 ⟨rfl, h⟩; have H1 := hide (H0.out.keep h); obtain ⟨c0, c1, c2⟩ := threeCells H1.out; obtain ⟨f0, f1, f2⟩ := threeFree H1.out.p1; obtain ⟨t0, t1, t2⟩ := threeCells H1.out.p1; clear h))
    have HR := set3 H1.out.p1 (.string ⟨#[]⟩) (.string ⟨#[]⟩) (.int .i64 0)
    refine bodyPost_ret (ret_item HR rfl) rfl ?_
    exact ⟨hno.out hi.out _ _ _, HR.toKeep⟩
  · have l1 : r1.length ≤ 100000 := by have := numD_le hd1; omega
    rcases hd2 : txtD n1 r1 with _ | ⟨k, r2⟩
    · have hi : itD r = none := by unfold itD; rw [hd1, Option.bind_some]; dsimp only; rw [hd2]; rfl
      have hi := hide hi
      go_enter Tryd.func38, Tryd.ntmps38
      go_wp2_with (first
        | (go_at_call 37; (with_reducible refine (num1_ok r r1 n1 hd1 hr _).mono ?_); rintro e w1 ⟨rfl, h⟩; have H1 := hide (H0.out.keep h); have H1' := H1; clear h)
        | (go_at_call 52; (with_reducible refine (text_no r1 n1 hd2 _).mono ?_); rintro e w2 ⟨rfl, h⟩; have H2 := hide (H1'.out.keep h); have g2 := H2.out.free (off := 0); have j2 := Holds.cell (off := 0) H2.out rfl; have H2' := hide (setTo' (H2.out) (off := 0) (v := .string ⟨#[]⟩) (by simp; rfl)); obtain ⟨c0, c1, c2⟩ := threeCells H2'.out; obtain ⟨f0, f1, f2⟩ := threeFree H2'.out.p1; obtain ⟨t0, t1, t2⟩ := threeCells H2'.out.p1; clear h))
      have HR := set3 H2'.out.p1 (.string ⟨#[]⟩) (.string ⟨#[]⟩) (.int .i64 0)
      refine bodyPost_ret (ret_item HR rfl) rfl ?_
      exact ⟨hno.out hi.out _ _ _, HR.toKeep⟩
    · have l2 : r2.length ≤ 100000 := by have := txtD_le hd2; omega
      rcases hd3 : numD 2 r2 with _ | ⟨n2, r3⟩
      · have hi : itD r = none := by unfold itD; rw [hd1, Option.bind_some]; dsimp only; rw [hd2, Option.bind_some]; dsimp only; rw [hd3]; rfl
        have hi := hide hi
        go_enter Tryd.func38, Tryd.ntmps38
        go_wp2_with (first
          | (go_at_call 37; (with_reducible refine (num1_ok r r1 n1 hd1 hr _).mono ?_); rintro e w1 ⟨rfl, h⟩; have H1 := hide (H0.out.keep h); have H1' := H1; clear h)
          | (go_at_call 52; (with_reducible refine (text_ok r1 k r2 n1 hd2 _).mono ?_); rintro e w2 ⟨rfl, h⟩; have H2 := hide (H1'.out.keep h); have g2 := H2.out.free (off := 0); have j2 := Holds.cell (off := 0) H2.out rfl; have H2' := hide (setTo' (H2.out) (off := 0) (v := .string ⟨k.toArray⟩) (by simp; rfl)); clear h)
          | (go_at_call 37; (with_reducible refine (num2_no r2 hd3 l2 _).mono ?_); rintro e w3 ⟨rfl, h⟩; have H3 := hide (H2'.out.keep h); obtain ⟨c0, c1, c2⟩ := threeCells H3.out; obtain ⟨f0, f1, f2⟩ := threeFree H3.out.p1; obtain ⟨t0, t1, t2⟩ := threeCells H3.out.p1; clear h))
        have HR := set3 H3.out.p1 (.string ⟨k.toArray⟩) (.string ⟨#[]⟩) (.int .i64 0)
        refine bodyPost_ret (ret_item HR rfl) rfl ?_
        exact ⟨hno.out hi.out _ _ _, HR.toKeep⟩
      · have l3 : r3.length ≤ 100000 := by have := numD_le hd3; omega
        rcases hd4 : txtD n2 r3 with _ | ⟨v, r4⟩
        · have hi : itD r = none := by unfold itD; rw [hd1, Option.bind_some]; dsimp only; rw [hd2, Option.bind_some]; dsimp only; rw [hd3, Option.bind_some]; dsimp only; rw [hd4]; rfl
          have hi := hide hi
          go_enter Tryd.func38, Tryd.ntmps38
          go_wp2_with (first
            | (go_at_call 37; (with_reducible refine (num1_ok r r1 n1 hd1 hr _).mono ?_); rintro e w1 ⟨rfl, h⟩; have H1 := hide (H0.out.keep h); have H1' := H1; clear h)
            | (go_at_call 52; (with_reducible refine (text_ok r1 k r2 n1 hd2 _).mono ?_); rintro e w2 ⟨rfl, h⟩; have H2 := hide (H1'.out.keep h); have g2 := H2.out.free (off := 0); have j2 := Holds.cell (off := 0) H2.out rfl; have H2' := hide (setTo' (H2.out) (off := 0) (v := .string ⟨k.toArray⟩) (by simp; rfl)); clear h)
            | (go_at_call 37; (with_reducible refine (num2_ok r2 r3 n2 hd3 l2 _).mono ?_); rintro e w3 ⟨rfl, h⟩; have H3 := hide (H2'.out.keep h); have H3' := H3; clear h)
            | (go_at_call 52; (with_reducible refine (text_no r3 n2 hd4 _).mono ?_); rintro e w4 ⟨rfl, h⟩; have H4 := hide (H3'.out.keep h); have g4 := H4.out.free (off := 1); have j4 := Holds.cell (off := 1) H4.out rfl; have H4' := hide (setTo' (H4.out) (off := 1) (v := .string ⟨#[]⟩) (by simp; rfl)); obtain ⟨c0, c1, c2⟩ := threeCells H4'.out; obtain ⟨f0, f1, f2⟩ := threeFree H4'.out.p1; obtain ⟨t0, t1, t2⟩ := threeCells H4'.out.p1; clear h))
          have HR := set3 H4'.out.p1 (.string ⟨k.toArray⟩) (.string ⟨#[]⟩) (.int .i64 0)
          refine bodyPost_ret (ret_item HR rfl) rfl ?_
          exact ⟨hno.out hi.out _ _ _, HR.toKeep⟩
        · have l4 : r4.length ≤ 100000 := by have := txtD_le hd4; omega
          rcases hd5 : numD 8 r4 with _ | ⟨d, r5⟩
          · have hi : itD r = none := by unfold itD; rw [hd1, Option.bind_some]; dsimp only; rw [hd2, Option.bind_some]; dsimp only; rw [hd3, Option.bind_some]; dsimp only; rw [hd4, Option.bind_some]; dsimp only; rw [hd5]; rfl
            have hi := hide hi
            go_enter Tryd.func38, Tryd.ntmps38
            go_wp2_with (first
              | (go_at_call 37; (with_reducible refine (num1_ok r r1 n1 hd1 hr _).mono ?_); rintro e w1 ⟨rfl, h⟩; have H1 := hide (H0.out.keep h); have H1' := H1; clear h)
              | (go_at_call 52; (with_reducible refine (text_ok r1 k r2 n1 hd2 _).mono ?_); rintro e w2 ⟨rfl, h⟩; have H2 := hide (H1'.out.keep h); have g2 := H2.out.free (off := 0); have j2 := Holds.cell (off := 0) H2.out rfl; have H2' := hide (setTo' (H2.out) (off := 0) (v := .string ⟨k.toArray⟩) (by simp; rfl)); clear h)
              | (go_at_call 37; (with_reducible refine (num2_ok r2 r3 n2 hd3 l2 _).mono ?_); rintro e w3 ⟨rfl, h⟩; have H3 := hide (H2'.out.keep h); have H3' := H3; clear h)
              | (go_at_call 52; (with_reducible refine (text_ok r3 v r4 n2 hd4 _).mono ?_); rintro e w4 ⟨rfl, h⟩; have H4 := hide (H3'.out.keep h); have g4 := H4.out.free (off := 1); have j4 := Holds.cell (off := 1) H4.out rfl; have H4' := hide (setTo' (H4.out) (off := 1) (v := .string ⟨v.toArray⟩) (by simp; rfl)); clear h)
              | (go_at_call 37; (with_reducible refine (num8_no r4 hd5 l4 _).mono ?_); rintro e w5 ⟨rfl, h⟩; have H5 := hide (H4'.out.keep h); have g5 := H5.out.free (off := 2); have j5 := Holds.cell (off := 2) H5.out rfl; have H5' := hide (setTo' (H5.out) (off := 2) (v := .int .i64 0) (by simp; rfl)); obtain ⟨c0, c1, c2⟩ := threeCells H5'.out; obtain ⟨f0, f1, f2⟩ := threeFree H5'.out.p1; obtain ⟨t0, t1, t2⟩ := threeCells H5'.out.p1; clear h))
            have HR := set3 H5'.out.p1 (.string ⟨k.toArray⟩) (.string ⟨v.toArray⟩) (.int .i64 0)
            refine bodyPost_ret (ret_item HR rfl) rfl ?_
            exact ⟨hno.out hi.out _ _ _, HR.toKeep⟩
          · have hi : itD r = some (⟨⟨k.toArray⟩, ⟨v.toArray⟩, (d : Int)⟩, r5) := by unfold itD; rw [hd1, Option.bind_some]; dsimp only; rw [hd2, Option.bind_some]; dsimp only; rw [hd3, Option.bind_some]; dsimp only; rw [hd4, Option.bind_some]; dsimp only; rw [hd5]; rfl
            have hi := hide hi
            go_enter Tryd.func38, Tryd.ntmps38
            go_wp2_with (first
              | (go_at_call 37; (with_reducible refine (num1_ok r r1 n1 hd1 hr _).mono ?_); rintro e w1 ⟨rfl, h⟩; have H1 := hide (H0.out.keep h); have H1' := H1; clear h)
              | (go_at_call 52; (with_reducible refine (text_ok r1 k r2 n1 hd2 _).mono ?_); rintro e w2 ⟨rfl, h⟩; have H2 := hide (H1'.out.keep h); have g2 := H2.out.free (off := 0); have j2 := Holds.cell (off := 0) H2.out rfl; have H2' := hide (setTo' (H2.out) (off := 0) (v := .string ⟨k.toArray⟩) (by simp; rfl)); clear h)
              | (go_at_call 37; (with_reducible refine (num2_ok r2 r3 n2 hd3 l2 _).mono ?_); rintro e w3 ⟨rfl, h⟩; have H3 := hide (H2'.out.keep h); have H3' := H3; clear h)
              | (go_at_call 52; (with_reducible refine (text_ok r3 v r4 n2 hd4 _).mono ?_); rintro e w4 ⟨rfl, h⟩; have H4 := hide (H3'.out.keep h); have g4 := H4.out.free (off := 1); have j4 := Holds.cell (off := 1) H4.out rfl; have H4' := hide (setTo' (H4.out) (off := 1) (v := .string ⟨v.toArray⟩) (by simp; rfl)); clear h)
              | (go_at_call 37; (with_reducible refine (num8_ok r4 r5 d hd5 l4 _).mono ?_); rintro e w5 ⟨rfl, h⟩; have H5 := hide (H4'.out.keep h); have g5 := H5.out.free (off := 2); have j5 := Holds.cell (off := 2) H5.out rfl; have H5' := hide (setTo' (H5.out) (off := 2) (v := .int .i64 d) (by simp; rfl)); obtain ⟨c0, c1, c2⟩ := threeCells H5'.out; obtain ⟨f0, f1, f2⟩ := threeFree H5'.out.p1; obtain ⟨t0, t1, t2⟩ := threeCells H5'.out.p1; clear h))
            have HR := set3 H5'.out.p1 (.string ⟨k.toArray⟩) (.string ⟨v.toArray⟩) (.int .i64 d)
            refine bodyPost_ret (ret_item HR rfl) rfl ?_
            exact ⟨hyes.out _ _ hi.out, HR.toKeep⟩
end Go.Proofs.YtggeppmiifkikaaDoor
