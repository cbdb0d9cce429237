/- The laws' Wraps: is an error a fault of that operation and key, that wraps the number; or, of 0, none? -/
import Derived.Test.YtggeppmiifkikaaDoorErrIs
namespace Go.Proofs.YtggeppmiifkikaaDoor
open Go Go.RowKit

theorem as_sl {g w : World} {t : Nat} {F : List SProp} (e : Addr) (hg : Env g) (h : Holds g w (pts t (.cells #[.pointer none] 55) :: F)) :
    Calls Tryd.prog 21 #[.iface 55 (.pointer (some e)), .iface 57 (.pointer (some ⟨t, 0, none⟩))] w fun ev w' => ev = .returned (.bool true) ∧ Holds g w' (pts t (.cells #[.pointer (some e)] 55) :: F) := by
  refine (as_hit e ⟨t, 0, none⟩ (.pointer none) w (h.oldCell hg) (h.cell rfl) h.free).mono ?_
  rintro r w' ⟨rfl, rfl⟩
  exact ⟨rfl, h.alloc'.alloc'.alloc'.alloc'.setCell⟩

def wrapsB (e : EV) (op key : ByteArray) (code : Int) : Bool :=
  if code = 0 then (match e with | .nil => true | _ => false) else match e with | .fault o k e' => decide (o.toList = op.toList) && (decide (k.toList = key.toList) && isErr e' code) | _ => false

theorem Wraps_zero (e : EV) (v : Value) (op key : ByteArray) (w : World) (he : ErrAt w e v) :
    Calls Tryd.prog 16 #[v, .string op, .string key, .int .i64 0] w fun r w' => r = .returned (.bool (wrapsB e op key 0)) ∧ w = w' := by
  cases e with
  | nil =>
    obtain rfl := he
    go_enter Tryd.func16, Tryd.ntmps16
    go_wp2
    go_ret
    exact ⟨rfl, rfl⟩
  | no n =>
    obtain rfl := he
    go_enter Tryd.func16, Tryd.ntmps16
    go_wp2
    go_ret
    exact ⟨rfl, rfl⟩
  | fault o k e =>
    obtain ⟨b, ve, rfl, _⟩ := he
    go_enter Tryd.func16, Tryd.ntmps16
    go_wp2
    go_ret
    exact ⟨rfl, rfl⟩
theorem Wraps_nil (op key : ByteArray) (code : Int) (w : World) (hc : code ≠ 0) :
    Calls Tryd.prog 16 #[.nilIface, .string op, .string key, .int .i64 code] w fun r w' => r = .returned (.bool false) ∧ Keep w w' := by
  have hc : (code == 0) = false := by simpa using hc
  go_enter Tryd.func16, Tryd.ntmps16
  go_wp2
  go_ret
  exact ⟨rfl, (Keep.refl _).alloc⟩
set_option maxHeartbeats 1000000 in
theorem Wraps_fault (op key o k : ByteArray) (e : EV) (v : Value) (code : Int) (w : World) (hg : Env w) (hc : code ≠ 0) (he : ErrAt w (.fault o k e) v) (hs : e.sound) :
    Calls Tryd.prog 16 #[v, .string op, .string key, .int .i64 code] w fun r w' => r = .returned (.bool (wrapsB (.fault o k e) op key code)) ∧ Keep w w' := by
  have hn : wrapsB (.fault o k e) op key code = (decide (o.toList = op.toList) && (decide (k.toList = key.toList) && isErr e code)) := by simp [wrapsB, hc]
  rw [hn]
  clear hn
  have hc : (code == 0) = false := by simpa using hc
  have heH := hide he
  obtain ⟨b, ve, rfl, hb, -⟩ := he
  have hbH := hide hb
  clear hb
  have h0 := ((Holds.start w).alloc (o := .cells #[.pointer none] 55))
  have hH := hide h0
  clear h0
  by_cases ho : o.toList = op.toList <;> by_cases hk : k.toList = key.toList
  all_goals
    go_enter Tryd.func16, Tryd.ntmps16
    go_wp2_with (first
      | (go_at_call 21; refine (as_sl _ hg hH.out).mono ?_; rintro r w1 ⟨rfl, h1⟩
         have hc1 : w1.heap[b]? = some (.cells #[.string o, .string k, ve] 59) := h1.toKeep.block _ _ hbH.out
         have hc0 := h1.cell (off := 0) rfl
         have e0 : w1.cell? ⟨b, 0, none⟩ = some (.string o) := by simp [World.cell?, hc1]
         have e1 : w1.cell? ⟨b, 1, none⟩ = some (.string k) := by simp [World.cell?, hc1]
         have hK := hide h1.toKeep
         clear h1 hc1)
      | (go_at_call 24; refine (Is_any code _ _ _ (heH.out.keep hK.out) hs).mono ?_; rintro r w2 ⟨rfl, rfl⟩))
    go_ret
    exact ⟨by simp [ho, hk, isErr], hK.out⟩
theorem sound_no (n : Int) : (EV.no n).sound := trivial
theorem Env.of {g w : World} {L : List SProp} (hE : Env g) (h : Holds g w L) : Env w := h.oldCell hE
theorem Env.keep {g w : World} (hE : Env g) (h : Keep g w) : Env w := h.cell hE
theorem Wraps_hit (op key : ByteArray) (n : Int) (v : Value) (w : World) (hg : Env w) (hc : n ≠ 0) (he : ErrAt w (.fault op key (.no n)) v) :
    Calls Tryd.prog 16 #[v, .string op, .string key, .int .i64 n] w fun r w' => r = .returned (.bool true) ∧ Keep w w' := by
  have h := Wraps_fault op key op key (.no n) v n w hg hc he (sound_no n)
  simpa [wrapsB, isErr, hc] using h
end Go.Proofs.YtggeppmiifkikaaDoor
