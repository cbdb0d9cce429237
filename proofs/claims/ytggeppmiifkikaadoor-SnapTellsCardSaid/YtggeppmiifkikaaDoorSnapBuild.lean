/- strings.Builder: WriteString. -/
import Derived.Test.YtggeppmiifkikaaDoorSnapHash
import Derived.Lib.Builder
import Derived.Lib.AppendStr
namespace Go.Proofs.YtggeppmiifkikaaDoor
open Go Go.RowKit

section
variable {P : Program}
/-- An append of a text to a slice that the call owns: in its block, or in a new one. -/
theorem append_string_at (w : World) (base : Nat) (t u ty e : TypeId) (i : TypeInfo) (ht : P.underlying t = some (.slice e)) (hu : P.underlying u = some .string) (hi : P.info? e = some i) (hz : i.zero = some (.int .u8 0))
    (hsize : i.size = 1) (hby : i.bytes = 1) (v : Value) (n : Nat) (xs : List Value) (hown : w.ownsRow base e 1 v n xs) (s : ByteArray) (h63 : n + s.size ≤ maxLen) (hbytes : n + s.size ≤ 140737488355328) (hbase : base ≤ w.heap.size) :
    ∃ v' w', (Builtin.append_ #[t, u] ty #[v, .string s]).run P w = .ok v' w' ∧ w'.ownsRow base e 1 v' (n + s.size) (xs ++ Lib.strCells s) ∧ w.grownBy w' v.ownBlock ∧ (v'.ownBlock = v.ownBlock ∨ v'.ownBlock = some w.heap.size) := by
  obtain ⟨v', w', h1, h2, h3, h4⟩ := Lib.run_append_own_string (P := P) w base t u ty e i ht hu hi hz hsize hby v n xs hown s h63 hbytes hbase
  refine ⟨v', w', h1, h2, h3, ?_⟩
  have hxl : xs.length = n := by simpa using hown.1
  have eqv : ∀ {x : Value} {y : World}, (Builtin.append_ #[t, u] ty #[v, .string s]).run P w = .ok x y → v' = x := fun h => by
    rw [h1] at h
    injection h
  simp only [maxLen] at h63
  rcases hown.2 with ⟨rfl, rfl⟩ | ⟨g, cap, cur, rfl, hbg, hg, hnc, hcm, hcs, htake⟩
  · by_cases hm : s.size = 0
    · rw [h4.2 ⟨rfl, hm⟩]
      exact .inl rfl
    · have hr := run_append_nil_string (P := P) w t u ty e i (.int .u8 0) ht hu hi hz s (by omega) (by omega) (by rw [hby]; omega)
      rw [eqv hr]
      exact .inr rfl
  · by_cases hroom : n + s.size ≤ cap
    · have hr := Lib.run_append_room_string (P := P) w t u ty e i ht hu hi hsize g n cap cur hg s hroom (by omega)
      rw [eqv hr]
      exact .inl rfl
    · have hr := Lib.run_append_grow_string (P := P) w t u ty e i (.int .u8 0) ht hu hi hz ⟨g, 0, none⟩ n cap xs (by rw [hsize]; simpa using hxl) (hown.cells (g := g) rfl) s (by omega) (by omega) (by rw [hby]; exact growslice_fits (by omega) (by omega))
      rw [eqv hr]
      exact .inr rfl
theorem wpList_append_string {w : World} {ops : Array Oper} {rest : List Oper} {o : Oper} {a : Act} {Q : Exit → Act → World → Prop} (hgd : o.guard = none) (sl x : Operand) (t u : TypeId)
    (ho : o.op = .call { callee := .builtin .append, args := #[sl, x], argTypes := #[t, u] })
    (e : TypeId) (i : TypeInfo) (ht : P.underlying t = some (.slice e)) (hu : P.underlying u = some .string) (hi : P.info? e = some i) (hz : i.zero = some (.int .u8 0))
    (hsize : i.size = 1) (hby : i.bytes = 1) {g : World} {L : List SProp}
    (v : Value) (n : Nat) (xs : List Value) (hs : a.eval sl = v) (hown : Holds g w (OwnRow e 1 v n xs :: L)) (s : ByteArray) (hx : a.eval x = .string s)
    (h63 : n + s.size ≤ maxLen) (hbytes : n + s.size ≤ 140737488355328)
    (h : ∀ v' w', Holds g w' (OwnRow e 1 v' (n + s.size) (xs ++ Lib.strCells s) :: L) → wpList P ops Q rest (a.put o.dst v') w') : wpList P ops Q (o :: rest) a w := by
  refine wpList_plain hgd fun K hK => ?_
  obtain ⟨v', w', hr, h2, h3, h4⟩ := append_string_at (P := P) w g.heap.size t u o.type e i ht hu hi hz hsize hby v n xs hown.ownsRow s h63 hbytes hown.size
  unfold Oper.wp
  simp [execOp, ho, resolve, invoke, builtin, hs, hx, hr, Result.andThen]
  exact hK _ _ (h v' w' (hown.grown h2 h3 (h4.imp id fun h4 => ⟨_, h4, Nat.le_refl _⟩)))
end
theorem infoBuilder : (Tryd.prog.info? 67).map (·.size) = some 2 := by kernel_rfl
theorem liesBuilder : liesAt Tryd.prog Tryd.prog.depth 67 (2 / Tryd.prog.cellsOf 67) 0 67 1 = true := by kernel_rfl
set_option maxRecDepth 100000 in
theorem copyCheck_used {b : Nat} {w : World} (c0 : w.cell? ⟨b, 0, none⟩ = some (.pointer (some ⟨b, 0, none⟩))) :
    Calls Tryd.prog 47 #[.pointer (some ⟨b, 0, none⟩)] w fun r w' => r = .returned (.tuple #[]) ∧ w = w' := by
  obtain ⟨j, hj, hjs⟩ := Option.map_eq_some_iff.1 infoBuilder
  have hn := fun w => Lib.run_neq_ptr_same (P := Tryd.prog) w ⟨b, 0, none⟩ Tryd.underlying65 hj
  clear hj hjs
  go_enter Tryd.func47, Tryd.ntmps47
  go_wp2
  go_end0
  exact ⟨rfl, rfl⟩
set_option maxRecDepth 100000 in
theorem copyCheck_nil {g w : World} {b : Nat} {v : Value} {F : List SProp} (h : Holds g w (pts b (.cells #[.pointer none, v] 67) :: F)) :
    Calls Tryd.prog 47 #[.pointer (some ⟨b, 0, none⟩)] w fun r w' => r = .returned (.tuple #[]) ∧ Holds g w' (pts b (.cells #[.pointer (some ⟨b, 0, none⟩), v] 67) :: F) := by
  have c0 := h.cell (off := 0) rfl
  have hf := h.free (off := 0)
  have hsh : w.shape? b = some (67, 2) := by simp [World.shape?, h.block]
  have hH := hide h
  clear h
  obtain ⟨j, hj, hjs⟩ := Option.map_eq_some_iff.1 infoBuilder
  have h1 := Lib.run_to_unsafe (P := Tryd.prog) w ⟨b, 0, none⟩ Tryd.underlying65 Tryd.underlying90 hj (by rw [hjs]; decide) hsh (Nat.zero_lt_succ 1)
  have h2 := Lib.run_from_unsafe (P := Tryd.prog) w ⟨b, 0, none⟩ Tryd.underlying90 Tryd.underlying65 hj hsh liesBuilder
  have h3 := run_callFunc_extern Tryd.func55 (by kernel_rfl) (by kernel_rfl) (by kernel_rfl) (e := Extern.AbiNoEscape.same) (by kernel_rfl)
  have h4 := fun x => Lib.run_noEscape (P := Tryd.prog) (w := w) x
  clear hj hjs hsh
  go_enter Tryd.func47, Tryd.ntmps47
  go_wp2
  go_end0
  exact ⟨rfl, hH.out.setCell⟩
theorem Holds.ownShape {g w : World} {e : TypeId} {v : Value} {n : Nat} {xs : List Value} {L : List SProp} (h : Holds g w (OwnRow e 1 v n xs :: L)) : ∃ ao cap, v = .slice ao n cap := by
  rcases h.ownsRow.2 with ⟨rfl, rfl⟩ | ⟨q, cap, cur, rfl, _⟩
  · exact ⟨_, _, rfl⟩
  · exact ⟨_, _, rfl⟩
theorem copyCheck_any {g w : World} {b : Nat} {p v : Value} {F : List SProp} (hp : p = .pointer none ∨ p = .pointer (some ⟨b, 0, none⟩)) (h : Holds g w (pts b (.cells #[p, v] 67) :: F)) :
    Calls Tryd.prog 47 #[.pointer (some ⟨b, 0, none⟩)] w fun r w' => r = .returned (.tuple #[]) ∧ Holds g w' (pts b (.cells #[.pointer (some ⟨b, 0, none⟩), v] 67) :: F) := by
  rcases hp with rfl | rfl
  · exact copyCheck_nil h
  · refine (copyCheck_used (h.cell (off := 0) rfl)).mono ?_
    rintro r w' ⟨rfl, rfl⟩
    exact ⟨rfl, h⟩
set_option maxRecDepth 100000 in
theorem WriteStr {g w : World} {b n : Nat} {p v : Value} {xs : List Value} {F : List SProp} (hp : p = .pointer none ∨ p = .pointer (some ⟨b, 0, none⟩)) (h : Holds g w (pts b (.cells #[p, v] 67) :: OwnRow 5 1 v n xs :: F)) (s : ByteArray) (hl : n + s.size ≤ 10000000) :
    Calls Tryd.prog 26 #[.pointer (some ⟨b, 0, none⟩), .string s] w fun r w' => ∃ v', r = .returned (.tuple #[.int .i64 s.size, .nilIface]) ∧
      Holds g w' (pts b (.cells #[.pointer (some ⟨b, 0, none⟩), v'] 67) :: OwnRow 5 1 v' (n + s.size) (xs ++ Lib.strCells s) :: F) := by
  obtain ⟨ao, cap, rfl⟩ := h.p1.ownShape
  have hC := hide (copyCheck_any hp h)
  clear h hp
  obtain ⟨i, hi, hz0, hz1, hz2⟩ := info_parts infoU8
  have hi := hide hi
  have hz0 := hide hz0
  have hz1 := hide hz1
  have hz2 := hide hz2
  go_enter Tryd.func26, Tryd.ntmps26
  go_wp2_with (first
    | (go_at_call 47; (with_reducible refine hC.out.mono ?_); rintro r w1 ⟨rfl, h1⟩; have c1 := h1.cell (off := 1) rfl; have h1 := hide h1)
    | (at_builtin; refine wpList_append_string rfl _ _ _ _ rfl 5 i Tryd.underlying50 Tryd.underlying9 hi.out hz0.out hz1.out hz2.out _ n xs rfl h1.out.p1 s rfl (by simp only [maxLen]; omega) (by omega) ?_; intro v2 w2 h2; obtain ⟨ao2, cap2, rfl⟩ := h2.ownShape; have h2' := h2.p1; clear h2; have d1 := h2'.cell (off := 1) rfl; have f1 := h2'.free (off := 1); have h2 := hide h2'; clear h2'))
  go_ret2
  exact ⟨_, rfl, h2.out.setCell⟩
end Go.Proofs.YtggeppmiifkikaaDoor
