/- The law InstEnough: its walk. -/
import Derived.Test.YtbbdimlpofjlfaaGreatDoorQLawKeeps
import Derived.Test.YtbbdimlpofjlfaaGreatDoorQQuiet
import Derived.Test.YtbbdimlpofjlfaaGreatDoorQMap2
import Derived.Deep.DeepCutAuto
namespace Go.Proofs.YtbbdimlpofjlfaaGreatDoor
open Go Go.RowKit

/-! ### A set of keys, as a map -/
def seenL (l : List ByteArray) : TMap Bool := l.foldl (fun m k => m.put k true) []
theorem seenL_snoc (l : List ByteArray) (k : ByteArray) : seenL (l ++ [k]) = (seenL l).put k true := by
  unfold seenL
  rw [List.foldl_append]
  rfl
theorem rev_ind {P : List ByteArray → Prop} (h0 : P []) (h1 : ∀ l k, P l → P (l ++ [k])) (l : List ByteArray) : P l := by
  rw [← List.reverse_reverse l]
  induction l.reverse with
  | nil => exact h0
  | cons k l ih => rw [List.reverse_cons]; exact h1 _ k ih
theorem seenL_get (l : List ByteArray) : ∀ c, (seenL l).get c = if c ∈ l then some true else none := by
  refine rev_ind (P := fun l => ∀ c, (seenL l).get c = if c ∈ l then some true else none) (fun c => rfl) (fun l k ih c => ?_) l
  rw [seenL_snoc, TMap.get_put, ih]
  by_cases h : c = k
  · rw [if_pos h, if_pos (by simp [h])]
  · rw [if_neg h]
    by_cases h2 : c ∈ l
    · rw [if_pos h2, if_pos (List.mem_append.2 (.inl h2))]
    · rw [if_neg h2, if_neg (by simp [h, h2])]
theorem seenL_keys (l : List ByteArray) : ((seenL l).map (·.1)).Nodup ∧ ∀ c, c ∈ (seenL l).map (·.1) ↔ c ∈ l := by
  have hm : ∀ (m : TMap Bool) (c : ByteArray), m.has c = true ↔ c ∈ m.map (·.1) := fun m c => by
    unfold TMap.has
    rw [List.any_eq_true]
    simp only [decide_eq_true_eq, List.mem_map]
  have hg : ∀ c, c ∈ (seenL l).map (·.1) ↔ c ∈ l := fun c => by
    rw [← hm, TMap.has_get, seenL_get]
    by_cases h : c ∈ l <;> simp [h]
  refine ⟨?_, hg⟩
  clear hg
  refine rev_ind (P := fun l => ((seenL l).map (·.1)).Nodup) List.nodup_nil (fun l k ih => ?_) l
  rw [seenL_snoc]
  unfold TMap.put
  split
  · rw [List.map_map, show ((fun x : ByteArray × Bool => x.1) ∘ fun p : ByteArray × Bool => if p.1 = k then (k, true) else p) = (·.1) from funext fun p => by
      show (if p.1 = k then (k, true) else p).1 = p.1
      split
      · rename_i h; exact h.symm
      · rfl]
    exact ih
  · rename_i hh
    rw [List.map_append]
    refine List.nodup_append.2 ⟨ih, by simp, fun a ha b hb e => ?_⟩
    simp only [List.map_cons, List.map_nil, List.mem_singleton] at hb
    subst hb
    subst e
    exact hh ((hm _ _).2 ha)
theorem seenL_len {R l : List ByteArray} (hR : R.Nodup) (h : ∀ c, c ∈ R ↔ c ∈ l) : (seenL l).length = R.length := by
  have e : (seenL l).length = ((seenL l).map (·.1)).length := (List.length_map _).symm
  rw [e]
  exact same_len (seenL_keys l).1 hR fun c => by rw [(seenL_keys l).2, h]
theorem seenL_le {R l : List ByteArray} (hR : R.Nodup) (h : ∀ c ∈ R, c ∈ l) : R.length ≤ (seenL l).length := by
  have e : (seenL l).length = ((seenL l).map (·.1)).length := (List.length_map _).symm
  rw [e]
  exact sub_len hR fun c hc => ((seenL_keys l).2 c).2 (h c hc)
theorem foldl_put_len : ∀ (l : List ByteArray) (m : TMap Bool), (l.foldl (fun m k => m.put k true) m).length ≤ m.length + l.length
  | [], m => Nat.le_refl _
  | k :: l, m => by
    have h := foldl_put_len l (m.put k true)
    have h2 : (m.put k true).length ≤ m.length + 1 := by
      unfold TMap.put
      split
      · rw [List.length_map]; omega
      · rw [List.length_append]; simp
    rw [List.foldl_cons, List.length_cons]
    omega
theorem seenL_size (l : List ByteArray) : (seenL l).length ≤ l.length := by have := foldl_put_len l []; simp only [List.length_nil, Nat.zero_add] at this; exact this
def encB (b : Bool) : Value := .bool b
theorem encB_len (m : TMap Bool) : (m.enc encB).length = m.length := List.length_map _
/-- What is known of an instance with room enough, after i keys. -/
structure Enough (m D i : Nat) (keys : List ByteArray) (x : In) (t : Tape) : Prop where
  good : IGood m i x t
  n : x.n = (i : Nat)
  h : x.h + ((seenL (keys.take i)).length : Nat) = (i : Nat)
  res : ∀ c, c ∈ x.c.res ↔ c ∈ keys.take i
  ghosts : x.c.ghosts = []
theorem take_snoc {keys : List ByteArray} {i : Nat} {k : ByteArray} (h : keys[i]? = some k) : keys.take (i + 1) = keys.take i ++ [k] := by
  rw [List.take_add_one, h]
  rfl
theorem Enough.req {m D i : Nat} {keys : List ByteArray} {x : In} {t : Tape} {k : ByteArray} (e : Enough m D i keys x t) (hD : (seenL keys).length = D) (hm : D ≤ m) (hk : keys[i]? = some k) :
    ∃ y u, x.req t k = (y, u, ⟨decide (k ∈ keys.take i), ⟨#[]⟩, false⟩) ∧ Enough m D (i + 1) keys y u := by
  obtain ⟨a1, a2⟩ := Ca.asked e.good.inv t k
  have hg := e.good.req k
  have hkm : k ∈ keys := List.mem_of_getElem? hk
  have hsub : ∀ c ∈ x.c.res, c ∈ keys := fun c hc => List.mem_of_mem_take ((e.res c).1 hc)
  obtain ⟨⟨y, u, st⟩, hr⟩ : ∃ r, x.req t k = r := ⟨_, rfl⟩
  have hst : (x.c.req t k).2.2 = st := congrArg (fun q => q.2.2) hr
  have hyc : (x.c.req t k).1 = y.c := congrArg (fun q => q.1.c) hr
  have hyn : x.n + 1 = y.n := congrArg (fun q => q.1.n) hr
  have hyh : (if (x.c.req t k).2.2.hit then x.h + 1 else x.h) = y.h := congrArg (fun q => q.1.h) hr
  have hm0 : m ≠ 0 := fun e0 => by
    have h1 : ([k] : List ByteArray).length ≤ (seenL keys).length := seenL_le (by simp) (fun c hc => by rw [List.mem_singleton] at hc; subst hc; exact hkm)
    simp only [List.length_singleton] at h1
    omega
  have hgh : st.out = false → y.c.ghosts = [] := fun ho => by
    rw [← hyc]
    exact Ca.req_ghosts e.good.inv t k (by rw [e.good.most]; exact hm0) (by rw [hst]; exact ho) e.ghosts
  rw [hr] at hg ⊢
  rw [hst] at hyh
  rw [hst, hyc, e.good.most] at a2
  rw [hyc] at a1
  have ht := take_snoc hk
  have hlen := seenL_len e.good.inv.nodup e.res
  cases a2 with
  | hit hkr res =>
    have hkt := (e.res k).1 hkr
    have hres : ∀ c, c ∈ y.c.res ↔ c ∈ keys.take (i + 1) := fun c => by
      rw [res, e.res, ht, List.mem_append, List.mem_singleton]
      exact ⟨.inl, fun h => h.elim id fun h => h ▸ hkt⟩
    have hlen2 := seenL_len hg.inv.nodup hres
    have hsl := same_len hg.inv.nodup e.good.inv.nodup res
    refine ⟨y, u, by rw [decide_eq_true hkt]; rfl, hg, ?_, ?_, hres, hgh rfl⟩
    · rw [← hyn, e.n]; omega
    · have := e.h
      rw [if_pos rfl] at hyh
      rw [← hyh]
      omega
  | less hkr hl res =>
    have hkt : k ∉ keys.take i := fun h => hkr ((e.res k).2 h)
    have hres : ∀ c, c ∈ y.c.res ↔ c ∈ keys.take (i + 1) := fun c => by
      rw [res, e.res, ht, List.mem_append, List.mem_singleton]
      exact or_comm
    have hlen2 := seenL_len hg.inv.nodup hres
    have hsl := len_add e.good.inv.nodup hg.inv.nodup hkr res
    refine ⟨y, u, by rw [decide_eq_false hkt]; rfl, hg, ?_, ?_, hres, hgh rfl⟩
    · rw [← hyn, e.n]; omega
    · have := e.h
      rw [if_neg (by decide)] at hyh
      rw [← hyh]
      omega
  | full v hkr h0 hl hv res =>
    exfalso
    have h1 : (k :: x.c.res).length ≤ (seenL keys).length := seenL_le (List.nodup_cons.2 ⟨hkr, e.good.inv.nodup⟩) (fun c hc => by
      rcases List.mem_cons.1 hc with rfl | hc
      · exact hkm
      · exact hsub c hc)
    rw [List.length_cons] at h1
    omega
  | zero h0 => exact absurd h0 hm0
set_option maxRecDepth 100000
set_option maxHeartbeats 4000000
theorem zeroB (w : World) : (zeroValue 4).run Tryz.prog w = .ok (.bool false) w := by kernel_rfl
theorem walk_InstEnough (kind more : Int) (vl vk : Value) (lane : List Nat) (keys : List ByteArray) (W : World) (hE : Env W) (hl : RowR W vl (nums64 lane)) (hll : ∀ x ∈ lane, x < 18446744073709551616) (hk : RowR W vk (strs keys)) :
    Calls Tryz.prog 5 #[.int .i64 kind, .int .i64 more, vl, vk] W fun e w' => e = .returned (.bool true) ∧ Holds W w' [] := by
  have hE := hide hE
  obtain ⟨al, cl, hvl⟩ := hl.shape
  obtain ⟨ak, ck, hvk⟩ := hk.shape
  rw [nums64_length] at hvl
  rw [strs_length] at hvk
  subst hvl
  subst hvk
  obtain ⟨N, hN⟩ : ∃ N, lane.length = N := ⟨_, rfl⟩
  obtain ⟨n, hn⟩ : ∃ n, keys.length = n := ⟨_, rfl⟩
  rw [hN] at hl ⊢
  rw [hn] at hk ⊢
  replace hN := hide hN
  replace hn := hide hn
  replace hl := hide hl
  replace hk := hide hk
  replace hll := hide hll
  have h0 := hide (Holds.start W)
  by_cases g1 : kind < 0
  · go_enter Tryz.func5, Tryz.ntmps5
    go_wp2_with (go_at_call 11; (with_reducible refine (awake11 W hE.out).mono ?_); rintro r w1 ⟨rfl, k1⟩)
    go_ret
    exact ⟨rfl, h0.out.keep k1⟩
  by_cases g2 : 6 < kind
  · go_enter Tryz.func5, Tryz.ntmps5
    go_wp2_with (go_at_call 11; (with_reducible refine (awake11 W hE.out).mono ?_); rintro r w1 ⟨rfl, k1⟩)
    go_ret
    exact ⟨rfl, h0.out.keep k1⟩
  by_cases g3 : more < 0
  · go_enter Tryz.func5, Tryz.ntmps5
    go_wp2_with (go_at_call 11; (with_reducible refine (awake11 W hE.out).mono ?_); rintro r w1 ⟨rfl, k1⟩)
    go_ret
    exact ⟨rfl, h0.out.keep k1⟩
  by_cases g4 : 100 < more
  · go_enter Tryz.func5, Tryz.ntmps5
    go_wp2_with (go_at_call 11; (with_reducible refine (awake11 W hE.out).mono ?_); rintro r w1 ⟨rfl, k1⟩)
    go_ret
    exact ⟨rfl, h0.out.keep k1⟩
  by_cases g5 : 200 < n
  · have g5' : (200 : Int) < n := by omega
    go_enter Tryz.func5, Tryz.ntmps5
    go_wp2_with (go_at_call 11; (with_reducible refine (awake11 W hE.out).mono ?_); rintro r w1 ⟨rfl, k1⟩)
    go_ret
    exact ⟨rfl, h0.out.keep k1⟩
  have g5' : ¬ (200 : Int) < n := by omega
  by_cases g6 : 300 < N
  · have g6' : (300 : Int) < N := by omega
    go_enter Tryz.func5, Tryz.ntmps5
    go_wp2_with (go_at_call 11; (with_reducible refine (awake11 W hE.out).mono ?_); rintro r w1 ⟨rfl, k1⟩)
    go_ret
    exact ⟨rfl, h0.out.keep k1⟩
  have g6' : ¬ (300 : Int) < N := by omega
  obtain ⟨mo, rfl⟩ : ∃ m : Nat, more = m := ⟨more.toNat, by omega⟩
  obtain ⟨kd, rfl⟩ : ∃ m : Nat, kind = m := ⟨kind.toNat, by omega⟩
  obtain ⟨D, hD⟩ : ∃ D, (seenL keys).length = D := ⟨_, rfl⟩
  obtain ⟨m, hmD⟩ : ∃ m, D + mo = m := ⟨_, rfl⟩
  have hDn : D ≤ n := by rw [← hD, ← hn.out]; exact seenL_size keys
  have hDb : Hide (D ≤ 200 ∧ D ≤ m) := ⟨by omega⟩
  have hkd : Hide (kd < 7) := ⟨by omega⟩
  have hm : Hide (m ≤ 1000) := ⟨by omega⟩
  have hNl : Hide (lane.length ≤ 300) := ⟨by rw [hN.out]; omega⟩
  have hnl : Hide (n ≤ 200) := ⟨by omega⟩
  have htk : Hide (tOk [lane]) := ⟨by intro l hl x hx; rw [List.mem_singleton] at hl; subst hl; exact hll.out x hx⟩
  have em : IntKind.i64.wrap ((D : Int) + (mo : Int)) = (m : Int) := by rw [IntWalk.i64_in _ (by omega)]; omega
  replace hD := hide hD
  replace em := hide em
  clear hmD hDn
  have hmm := @run_makeMap Tryz.prog
  go_enter Tryz.func5, Tryz.ntmps5
  go_upto_region 5 with (go_at_call 11; (with_reducible refine (awake11 W hE.out).mono ?_); rintro r w1 ⟨rfl, k1⟩; have k1 := hide k1)
  obtain ⟨mp, hmp⟩ : ∃ q, w1.heap.size = q := ⟨_, rfl⟩
  have hM0 := (h0.out.keep k1.out).newMap
  rw [hmp] at hM0
  replace hM0 := hide hM0
  go_wp2
  try simp only [hmp]
  clear g1 g2 g3 g4 g5 g6 g5' g6'
  go_loopg [10] (n) (fun c z wr => ∃ i, Hide (n - i = c) ∧ i ≤ n ∧ z = .int .i64 (i : Nat) ∧ Holds W wr (OwnMap mp ((seenL (keys.take i)).enc encB) :: []))
  case atStart => exact ⟨0, ⟨rfl⟩, Nat.zero_le _, rfl, hM0.out⟩
  case round =>
    clear hM0 hmp
    obtain ⟨i, hci, hin, rfl, hh⟩ := hrel
    replace hh := hide hh
    by_cases hlt : i < n
    · have hlt' : (i : Int) < n := by omega
      have hnl2 := hnl.out
      have e1 : IntKind.i64.wrap ((i : Int) + 1) = ((i + 1 : Nat) : Int) := by rw [IntWalk.i64_in _ (by omega)]; omega
      obtain ⟨key, hx⟩ : ∃ x, keys[i]? = some x := ⟨_, List.getElem?_eq_getElem (by rw [hn.out]; exact hlt)⟩
      obtain ⟨bk, ok, hak, cW⟩ := RowR.strCell hk.out hx
      subst hak
      have cx := hh.out.toKeep.cell cW
      obtain ⟨w2, hup, h2⟩ := Holds.updateMap (P := Tryz.prog) hh.out Tryz.underlying44 Tryz.underlying9 key (.bool true)
      rw [show (Value.bool true) = encB true from rfl, TMap.enc_put, ← seenL_snoc, ← take_snoc hx] at h2
      replace h2 := hide h2
      clear hx cW hnl2
      go_wp2
      go_roundg (n - (i + 1))
      case measure => rw [← hci.out]; omega
      case rel => exact ⟨i + 1, ⟨rfl⟩, by omega, rfl, h2.out⟩
    · obtain rfl : i = n := by omega
      have hlt' : ¬ (i : Int) < i := by omega
      have hM1 : Hide (Holds W wr (OwnMap mp ((seenL keys).enc encB) :: [])) := ⟨by have := hh.out; rw [List.take_of_length_le (by rw [hn.out]; exact Nat.le_refl _)] at this; exact this⟩
      obtain ⟨es, clock, hes, hesn⟩ := hM1.out.mapLen
      rw [encB_len, hD.out] at hesn
      have hln : (Builtin.len_ #[44] 3 #[.map (some mp)]).run Tryz.prog wr = .ok (.int .i64 (D : Nat)) wr := by
        have := run_len_map (P := Tryz.prog) (w := wr) 44 3 mp es clock (by kernel_rfl) hes
        rw [hesn] at this
        exact this
      have emm := em.out
      clear hes hesn hh
      go_upto_region 13 with (first
        | (go_at_call 13; (with_reducible refine (Draw_One _ lane (by have := hNl.out; omega) (fun wx hx => hl.out.keep hx.toKeep) hM1.out).mono ?_); rintro r w2 ⟨tb, rfl, h2⟩; have h2 := hide h2)
        | (go_at_call 12; (with_reducible refine (In_NewK (tb := tb) kd hkd.out m (by have := hm.out; omega) h2.out).mono ?_); rintro r w3 ⟨b, rfl, h3⟩; have h3 := hide h3))
      obtain ⟨mq, hmq⟩ : ∃ q, w3.heap.size = q := ⟨_, rfl⟩
      have hM3 := h3.out.newMap
      rw [hmq] at hM3
      replace hM3 := hide hM3
      have hE0 : Hide (Enough m D 0 keys ⟨Ca.new kd m 0, 0, 0⟩ [lane]) := ⟨⟨IGood.new kd m 0 hkd.out (by have := hm.out; omega) [lane] htk.out, rfl, rfl, fun c => by rw [(Ca.new_is kd m 0 hkd.out).2.1]; exact Iff.rfl, (Ca.new_is kd m 0 hkd.out).2.2.2.2⟩⟩
      go_wp2
      try simp only [hmq]
      clear hln emm
      go_loopg [14] (i) (fun c z wr => ∃ j x t, Hide (i - j = c) ∧ j ≤ i ∧ z = .int .i64 (j : Nat) ∧ Hide (Enough m D j keys x t) ∧ Holds W wr (OwnMap mq ((seenL (keys.take j)).enc encB) :: IsIn b tb x :: IsTape tb t :: OwnMap mp ((seenL keys).enc encB) :: []))
      case atStart => exact ⟨0, ⟨Ca.new kd m 0, 0, 0⟩, [lane], ⟨rfl⟩, Nat.zero_le _, rfl, hE0, hM3.out⟩
      case round =>
        clear hM3 hmq h3 h2 hM1 hE0
        obtain ⟨j, x, t, hcj, hjn, rfl, hEn, hj⟩ := hrel
        replace hj := hide hj
        by_cases hjl : j < i
        · have hjl' : (j : Int) < i := by omega
          have hnl2 := hnl.out
          have hj2 := hide (show j < 20000 by omega)
          have e1 : IntKind.i64.wrap ((j : Int) + 1) = ((j + 1 : Nat) : Int) := by rw [IntWalk.i64_in _ (by omega)]; omega
          obtain ⟨key, hx⟩ : ∃ x, keys[j]? = some x := ⟨_, List.getElem?_eq_getElem (by rw [hn.out]; exact hjl)⟩
          obtain ⟨bk, ok, hak, cW⟩ := RowR.strCell hk.out hx
          subst hak
          have cx := hj.out.toKeep.cell cW
          obtain ⟨y, u, hr, hEy⟩ := hEn.out.req hD.out hDb.out.2 hx
          obtain ⟨d, hd⟩ : ∃ d, decide (key ∈ keys.take j) = d := ⟨_, rfl⟩
          rw [hd] at hr
          replace hr := hide hr
          replace hEy := hide hEy
          have hgt : TMap.get (seenL (keys.take j)) key = if d = true then some true else none := by
            rw [seenL_get, ← hd]
            simp
          go_upto_region 18 with (go_at_call 15; (with_reducible refine (In_Ask hEn.out.good hj2.out hr.out (Holds.p2 (Holds.p2 hj.out))).mono ?_); rintro r w5 ⟨rfl, h5⟩)
          obtain ⟨rs, hrs⟩ : ∃ q, w5.heap.size = q := ⟨_, rfl⟩
          have h6 := h5.alloc (o := .cells #[.bool d, .string ⟨#[]⟩, .bool false] 34)
          rw [hrs] at h6
          simp only [hrs]
          generalize w5.alloc (.cells #[.bool d, .string ⟨#[]⟩, .bool false] 34) = W6 at h6 ⊢
          obtain ⟨t0, _, t2⟩ := cells3 h6
          have t0 : ∀ q : KeptOf W6, q.world.cell? ⟨rs, 0, none⟩ = some (.bool d) := fun q => q.keep.cell t0
          have t2 : ∀ q : KeptOf W6, q.world.cell? ⟨rs, 2, none⟩ = some (.bool false) := fun q => q.keep.cell t2
          have c6 := h6.toKeep.cell cW
          have cx6 : ∀ q : KeptOf W6, q.world.cell? ⟨bk, ok + j, none⟩ = some (.string key) := fun q => q.keep.cell c6
          have hlk : ∀ q : KeptOf W6, (Instr.lookup 44 (.map (some mq)) (.string key) false).run Tryz.prog q.world = .ok (.bool d) q.world := fun q => by
            have c := Holds.lookup (P := Tryz.prog) (Holds.p3 (KeptOf.holds q h6)) Tryz.underlying44 Tryz.underlying9 zeroB key
            rw [TMap.enc_get, hgt] at c
            cases d
            · exact c
            · exact c
          replace h6 := hide h6
          have hx2 := hide hx
          have cW2 := hide cW
          clear hrs h5 hj cx hgt hd hnl2 c6 hx cW
          go_wp2
          (refine wp_region_kept (by kernel_rfl) (by kernel_rfl) ?_; (repeat (go_big_quiet_step (fail))); refine wpQuiet_nil ?_; intro _ hw'; obtain ⟨uq, hw''⟩ := hw'; subst hw'')
          clear t0 t2 cx6 hlk
          obtain ⟨w7, hup, h7⟩ := Holds.updateMap (P := Tryz.prog) (Holds.p3 (uq.holds h6.out)) Tryz.underlying44 Tryz.underlying9 key (.bool true)
          have cx7 := (uq.holds h6.out).toKeep.cell cW2.out
          rw [show (Value.bool true) = encB true from rfl, TMap.enc_put, ← seenL_snoc, ← take_snoc hx2.out] at h7
          replace h7 := hide h7
          go_wp2
          go_roundg (i - (j + 1))
          case measure => rw [← hcj.out]; omega
          case rel => exact ⟨j + 1, y, u, ⟨rfl⟩, by omega, rfl, hEy, Holds.p1 (Holds.drop (Holds.p1 h7.out)) |>.p1⟩
        · obtain rfl : j = i := by omega
          have hjl' : ¬ (j : Int) < j := by omega
          have hEf := hEn.out
          have htk2 : keys.take j = keys := List.take_of_length_le (by rw [hn.out]; exact Nat.le_refl _)
          have hRl : x.c.res.length = D := by
            rw [← hD.out, ← seenL_len hEf.good.inv.nodup (l := keys) (fun c => by rw [hEf.res, htk2])]
          have hh := hEf.h
          rw [htk2, hD.out] at hh
          obtain ⟨es, clock, hes, hesn⟩ := (Holds.p3 hj.out).mapLen
          rw [encB_len, hD.out] at hesn
          have hDb2 := hDb.out
          have hnl2 := hnl.out
          have e5 : IntKind.i64.wrap ((j : Int) - (D : Int)) = x.h := by rw [IntWalk.i64_in _ (by omega)]; omega
          have hn2 : x.n = (j : Nat) := hEf.n
          have cC := hide (fun (w : World) (L : List SProp) (h : Holds W w (IsIn b tb x :: L)) => In_Count2 h (j : Nat) x.h hn2 rfl)
          have cL := hide (fun (w : World) (L : List SProp) (h : Holds W w (IsIn b tb x :: L)) => In_LenR D hRl (by omega) h)
          have hj2 := hide (show j < 20000 by omega)
          have cG := hide (fun (w : World) (L : List SProp) (h : Holds W w (IsIn b tb x :: L)) => by have c := In_GhostsI hEf.good hj2.out h; rw [hEf.ghosts] at c; exact c)
          have hln : ∀ w' : World, Hide (Keep wr w') → (Builtin.len_ #[44] 3 #[.map (some mp)]).run Tryz.prog w' = .ok (.int .i64 (D : Nat)) w' := fun w' k => by
            have := run_len_map (P := Tryz.prog) (w := w') 44 3 mp es clock (by kernel_rfl) (k.out.block _ _ hes)
            rw [hesn] at this
            exact this
          have hln0 := hln _ ⟨Keep.refl wr⟩
          have hjI := hide (Holds.p1 hj.out)
          clear hes hesn hDb2 hnl2 hh hRl htk2 hEf hn2
          go_wp2_with (first
            | (go_at_call 16; (with_reducible refine (cC.out _ _ hjI.out).mono ?_); rintro r w6 ⟨rfl, k6⟩; have h6 := hide (hjI.out.keep k6); replace k6 := hide k6; have l6 := hln _ k6)
            | (go_at_call 19; (with_reducible refine (cL.out _ _ h6.out).mono ?_); rintro r w7 ⟨rfl, k7⟩; have h7 := hide (h6.out.keep k7); replace k7 := hide (k6.out.trans k7); have l7 := hln _ k7)
            | (go_at_call 21; (with_reducible refine (cG.out _ _ h7.out).mono ?_); rintro r w8 ⟨ao8, cap8, rfl, h8⟩; have h8 := hide h8))
          go_ret
          exact ⟨rfl, h8.out.nil⟩
end Go.Proofs.YtbbdimlpofjlfaaGreatDoor
