/- Small functions on frozen data. -/
import Derived.Test.YtjiccnebfbpcgaaGreatDoorPf
set_option linter.unusedSimpArgs false
set_option linter.unusedVariables false
set_option linter.unusedSectionVars false
namespace Go.AL
open Go.Proofs
theorem wrapI {n : Int} (h0 : -9223372036854775808 ≤ n) (h : n < 9223372036854775808) : IntKind.i64.wrap n = n := by
  unfold IntKind.wrap
  have e : IntKind.i64.bits = 64 := rfl
  have e2 : IntKind.i64.signed = true := rfl
  simp only [e, e2, Bool.true_and, ge_iff_le, decide_eq_true_eq]
  split <;> omega
def slV : List (List AVal) → AVal
  | [] => .lit (.slice none 0 0)
  | e :: es => .fslice (e :: es)
theorem hkeep_take {h l : AHeap} {k : Nat} : HKeep h.length h ((h ++ l).set (h.length + k) none) := by
  intro a o ho ha
  left
  refine ⟨ha, ?_⟩
  rw [hget_set_ne (by omega), hget_append_old ha] at ho
  exact ho
theorem fend_slice {h l : AHeap} {k esz n : Nat} {cap : Option Nat} {es : List (List AVal)} {R : AVal → AHeap → Prop} (hl : l[k]? = some (some (.rows es))) (hn : n ≤ es.length) (hs : ∀ e ∈ es, e.length = esz)
    (hb : ∀ e ∈ es, ∀ v ∈ e, Below h.length v) (hR : R (.fslice (es.take n)) h) : FEnd h R (.slice (h.length + k) esz 0 n cap) (h ++ l) := by
  have hk : k < l.length := (List.getElem?_eq_some_iff.1 hl).1
  have hget1 : hget (h ++ l) (h.length + k) = some (.rows es) := by rw [hget_append_new, hl]; rfl
  have hb' : Below h.length (.fslice (es.take n)) := by
    refine .fslice _ fun i j e v he hv => ?_
    have := List.mem_of_mem_take (List.mem_of_getElem? he)
    exact hb e this v (List.mem_of_getElem? hv)
  refine ⟨.fslice (es.take n), (h ++ l).set (h.length + k) none, ?_, .inr ⟨h.length, Nat.le_refl _, by simp, hb', hkeep_take, ?_⟩⟩
  · have hre : Re (h.length + k) es (.slice (h.length + k) esz 0 n cap) (.fslice ((es.drop 0).take n)) := .slice esz 0 n cap (by omega) hs
    rw [List.drop_zero] at hre
    refine turns_freeze (by omega) hget1 hre (by simp) (hget_set_same (by simp; omega) _) fun b o ho => ?_
    by_cases e : h.length + k = b
    · subst e; rw [hget_set_same (by simp; omega)] at ho; cases ho
    · rw [hget_set_ne e] at ho; exact ⟨o, ho, .same o⟩
  · rw [List.take_set_of_le (by omega), List.take_left']
    · exact hR
    · rfl
theorem clone_ok (es : List (List AVal)) (hs : ∀ e ∈ es, e.length = 1) (hlen : es.length < 4294967296) (h : AHeap) (hb : ∀ e ∈ es, ∀ v ∈ e, Below h.length v) : ACall Tryz.prog 116 [slV es] h fun v h' => v = slV es ∧ h' = h := by
  refine acall_z mixed xf116 rfl ?_
  unfold xc116 xr116 xn116
  cases es with
  | nil =>
    unfold slV
    simp -dsimp -implicitDefEqProofs only [go_sem, reduceIte, Nat.reduceEqDiff, Nat.reduceAdd, Nat.reduceSub, Nat.reduceLeDiff, Nat.reduceLT, Nat.reduceMul, Int.reduceToNat, Int.reduceLT, Int.reduceLE, Int.reduceEq, Int.reduceNeg, go_sem]
    exact .all ⟨rfl, rfl⟩
  | cons e es =>
    unfold slV
    simp -dsimp -implicitDefEqProofs only [go_sem, reduceIte, Nat.reduceEqDiff, Nat.reduceAdd, Nat.reduceSub, Nat.reduceLeDiff, Nat.reduceLT, Nat.reduceMul, Int.reduceToNat, Int.reduceLT, Int.reduceLE, Int.reduceEq, Int.reduceNeg, go_sem]
    refine ⟨hs, by simp at hlen; omega, fun _ => ?_⟩
    exact fend_slice (k := 1) rfl (by simp) hs hb ⟨by simp, rfl⟩
theorem fend_cut {h l : AHeap} {v : AVal} {R : AVal → AHeap → Prop} (hb : Below h.length v) (hR : R v h) : FEnd h R v (h ++ l) := by
  refine .cut h.length (Nat.le_refl _) (by simp) hb (fun a o ho ha => .inl ⟨ha, by rw [hget_append_old ha] at ho; exact ho⟩) ?_
  rw [List.take_left' rfl]; exact hR
theorem zw_loopD {P : Program} {n0 n : Nat} {md : Option Nat} {c : XCode} {Q : Exit → ASt → Prop} {t0 : ATab} {d0 : List ADef} {h0 : AHeap} {u} (I : Nat → ATab → AHeap → Prop) (k0 : Nat) (hi : I k0 t0 h0)
    (hb : ∀ k t h, I k t h → ZW P n0 md c (Then (fun s' => ∃ k', k' < k ∧ s'.n = n ∧ s'.d = d0 ∧ I k' s'.t s'.h) Q) ⟨n, t, d0, h⟩ .mk) : ZW P n0 md (.loop c) Q ⟨n, t0, d0, h0⟩ u := by
  refine zw_loop (fun k s => s.n = n ∧ s.d = d0 ∧ I k s.t s.h) k0 ⟨rfl, rfl, hi⟩ ?_
  rintro k t d h ⟨_, e, hk⟩
  have e : d = d0 := e
  subst e
  exact hb k t h hk
theorem zcall_eq {f : FuncId} {xf : XFunc} (hf : xfunc Tryz.prog f = some xf) {f1 f2 args : List AVal} {h h1 : AHeap} {X : AVal} {K : AVal → AHeap → Prop} {u} (hl : h.length ≤ h1.length)
    (hc : ACall Tryz.prog f (f1 ++ (args ++ f2)) h fun v h' => v = X ∧ h' = h1) (hk : K X h1) : ZCallV Tryz.prog (.func (.func f) f1 f2) args h (fun v h' => h.length ≤ h'.length ∧ K v h') u :=
  zcallV_func (xfunc_ok hf).1 (hc.mono fun v h' ⟨a, b⟩ => by subst a; subst b; exact ⟨hl, hk⟩)
theorem ayield_z {P : Program} (hm : P.follows .mixedOrders = true) {l0 : Nat} {args : List AVal} {h : AHeap} {R : AVal → AHeap → Prop} {n : Nat} {t : ATab} {ps : Array Tmp} {ca cb : Code} {a0 : Nat} {xa xb : XCode}
    (hl : hget h l0 = some (.loop n t ps ca cb .ready none a0)) (hargs : args.length = ps.size) (hps : ps.toList.all (fun p => decide (p < n)) = true) (hxa : xcomp P n ca = some xa) (hxb : xcomp P n cb = some xb)
    (hk : ZW P h.length (some l0) xa (Then (fun s => hget s.h l0 = some (.loop n t ps ca cb .ready none a0) ∧ ZW P h.length (some l0) xb (RoundPost l0 n t ps ca cb a0 h R) ⟨n, s.t, s.d, hset s.h l0 (.loop n t ps ca cb .busy none a0)⟩ .mk) fun _ _ => False) ⟨n, putParams ps.toList args t, [], h⟩ .mk) :
    AYield P l0 args h R := by
  refine ayield_intro (pend := none) (a0 := a0) hl hargs hps ?_
  refine (xw P hm h.length (some l0) n ca xa hxa _ ⟨n, putParams ps.toList args t, [], h⟩ rfl hk).mono ?_
  rintro e s ⟨hn, _, hq⟩
  obtain ⟨n', t', d', h'⟩ := s
  have hn : n' = n := hn
  subst hn
  cases e with
  | normal =>
    obtain ⟨q1, q2⟩ := hq
    exact ⟨q1, (xw P hm h.length (some l0) n' cb xb hxb _ ⟨n', t', d', hset h' l0 (.loop n' t ps ca cb .busy none a0)⟩ rfl q2).mono fun e s hq => hq.2.2⟩
  | _ => exact hq.elim
theorem zcallV_of {F : AVal} {args : List AVal} {h : AHeap} {R K : AVal → AHeap → Prop} {u} (hc : ACallV Tryz.prog F args h R) (hk : ∀ v h', R v h' → h.length ≤ h'.length ∧ K v h') : ZCallV Tryz.prog F args h (fun v h' => h.length ≤ h'.length ∧ K v h') u :=
  acallv_mono hk hc
theorem zcallV_eq {F : AVal} {args : List AVal} {h h1 : AHeap} {X : AVal} {K : AVal → AHeap → Prop} {u} (hl : h.length ≤ h1.length)
    (hc : ACallV Tryz.prog F args h fun v h' => v = X ∧ h' = h1) (hk : K X h1) : ZCallV Tryz.prog F args h (fun v h' => h.length ≤ h'.length ∧ K v h') u :=
  acallv_mono (fun v h' ⟨a, b⟩ => by subst a; subst b; exact ⟨hl, hk⟩) hc
theorem set_new {h l : AHeap} {i : Nat} {o : Option AObj} : (h ++ l).set (h.length + i) o = h ++ l.set i o := by
  rw [List.set_append_right _ _ (by omega)]; congr 2; omega
theorem zcall_any {f : FuncId} {xf : XFunc} (hf : xfunc Tryz.prog f = some xf) {f1 f2 args : List AVal} {h : AHeap} {R K : AVal → AHeap → Prop} {u}
    (hc : ACall Tryz.prog f (f1 ++ (args ++ f2)) h R) (hk : ∀ v h', R v h' → h.length ≤ h'.length ∧ K v h') : ZCallV Tryz.prog (.func (.func f) f1 f2) args h (fun v h' => h.length ≤ h'.length ∧ K v h') u :=
  zcallV_func (xfunc_ok hf).1 (hc.mono hk)
theorem zw_rangeT {P : Program} {n0 : Nat} {md : Option Nat} {Q : Exit → ASt → Prop} {s : ASt} {f : AOpd} {ps : Array Tmp} {ac bo : Code} {xa xb : XCode} {u} {gf : FuncId} {first cap : List AVal} (hmd : md = none) (hf : s.t.ev f = .func (.func gf) first cap) (hok : callOk P gf = true)
    (hc : ∀ T, T = s.t → ACall P gf (first ++ ([.yieldf (s.h.length + 1)] ++ cap)) (s.h ++ [some .defd, some (.loop s.n T ps ac bo .ready none s.h.length)]) fun _ h' => XRangeEnd s.n T s.d s.h.length ps ac bo Q h') : ZW P n0 md (.range f ps ac bo xa xb) Q s u :=
  zw_range hmd hf hok (hc _ rfl)
end Go.AL
namespace Go.AL
open Go.Proofs
def ints (l : List Nat) : List (List AVal) := l.map fun (k : Nat) => [.lit (.int .i64 (k : Int))]
def rowsV (r : List (List Nat)) : List (List AVal) := r.map fun l => [slV (ints l)]
def boolsV (l : List Bool) : List (List AVal) := l.map fun b => [.lit (.bool b)]
structure Gr where
  next : List (List Nat)
  prev : List (List Nat)
  order : List Nat
  reached : List Bool
def Gr.cells (g : Gr) : List AVal := [.fslice (rowsV g.next), .fslice (rowsV g.prev), slV (ints g.order), .fslice (boolsV g.reached)]
def Gr.val (g : Gr) : AVal := .fptr g.cells 0
structure Gr.Small (g : Gr) : Prop where
  len : g.next.length < 4294967296
  plen : g.prev.length < 4294967296
  rlen : g.reached.length < 4294967296
  olen : g.order.length < 4294967296
  next : ∀ l ∈ g.next, l.length < 4294967296
  prev : ∀ l ∈ g.prev, l.length < 4294967296
theorem ints_len (l : List Nat) : (ints l).length = l.length := by simp [ints]
theorem ints_one {l : List Nat} : ∀ e ∈ ints l, e.length = 1 := by
  intro e he
  obtain ⟨k, _, rfl⟩ := List.mem_map.1 he
  rfl
theorem ints_below {l : List Nat} {n : Nat} : ∀ e ∈ ints l, ∀ v ∈ e, Below n v := by
  intro e he v hv
  obtain ⟨k, _, rfl⟩ := List.mem_map.1 he
  simp only [List.mem_cons, List.not_mem_nil, or_false] at hv
  subst hv; exact .lit _
theorem len_ok (g : Gr) (h : AHeap) : ACall Tryz.prog 56 [g.val] h fun v h' => v = vint g.next.length ∧ h' = h := by
  refine acall_z mixed xf56 rfl ?_
  unfold xc56 xr56 xn56 Gr.val Gr.cells
  simp -dsimp -implicitDefEqProofs only [go_sem, reduceIte, Nat.reduceEqDiff, Nat.reduceAdd, Nat.reduceSub, Nat.reduceLeDiff, Nat.reduceLT, Nat.reduceMul, Int.reduceToNat, Int.reduceLT, Int.reduceLE, Int.reduceEq, Int.reduceNeg, go_sem]
  exact .all ⟨by simp [rowsV, vint], rfl⟩
theorem order_ok (g : Gr) (hg : g.Small) (h : AHeap) : ACall Tryz.prog 57 [g.val] h fun v h' => v = slV (ints g.order) ∧ h' = h := by
  refine acall_z mixed xf57 rfl ?_
  unfold xc57 xr57 xn57 Gr.val Gr.cells
  simp -dsimp -implicitDefEqProofs only [go_sem, reduceIte, Nat.reduceEqDiff, Nat.reduceAdd, Nat.reduceSub, Nat.reduceLeDiff, Nat.reduceLT, Nat.reduceMul, Int.reduceToNat, Int.reduceLT, Int.reduceLE, Int.reduceEq, Int.reduceNeg, go_sem]
  refine zcall_eq xf116 (Nat.le_refl _) (clone_ok _ ints_one (by rw [ints_len]; exact hg.olen) h ints_below) ?_
  simp -dsimp -implicitDefEqProofs only [go_sem, reduceIte, Nat.reduceEqDiff, Nat.reduceAdd, Nat.reduceSub, Nat.reduceLeDiff, Nat.reduceLT, Nat.reduceMul, Int.reduceToNat, Int.reduceLT, Int.reduceLE, Int.reduceEq, Int.reduceNeg, go_sem]
  exact .all ⟨rfl, rfl⟩
theorem reached_ok (g : Gr) (b : Int) (h : AHeap) : ACall Tryz.prog 20 [g.val, .lit (.int .i64 b)] h fun v h' => v = vbool (decide (0 ≤ b) && (g.reached[b.toNat]?).getD false) ∧ h' = h := by
  refine acall_z mixed xf20 rfl ?_
  unfold xc20 xr20 xn20 Gr.val Gr.cells
  simp -dsimp -implicitDefEqProofs only [go_sem, reduceIte, Nat.reduceEqDiff, Nat.reduceAdd, Nat.reduceSub, Nat.reduceLeDiff, Nat.reduceLT, Nat.reduceMul, Int.reduceToNat, Int.reduceLT, Int.reduceLE, Int.reduceEq, Int.reduceNeg, go_sem]
  by_cases hb : 0 ≤ b
  · simp -dsimp -implicitDefEqProofs only [go_sem, reduceIte, Nat.reduceEqDiff, Nat.reduceAdd, Nat.reduceSub, Nat.reduceLeDiff, Nat.reduceLT, Nat.reduceMul, Int.reduceToNat, Int.reduceLT, Int.reduceLE, Int.reduceEq, Int.reduceNeg, hb, decide_true]
    by_cases hl : b < ((boolsV g.reached).length : Int)
    · have hl2 : b.toNat < g.reached.length := by simp [boolsV] at hl; omega
      have hg : (boolsV g.reached)[b.toNat]? = some [.lit (.bool (g.reached[b.toNat]'hl2))] := by simp [boolsV, List.getElem?_map, List.getElem?_eq_getElem hl2]
      simp -dsimp -implicitDefEqProofs only [go_sem, reduceIte, Nat.reduceEqDiff, Nat.reduceAdd, Nat.reduceSub, Nat.reduceLeDiff, Nat.reduceLT, Nat.reduceMul, Int.reduceToNat, Int.reduceLT, Int.reduceLE, Int.reduceEq, Int.reduceNeg, hl, decide_true, hg]
      refine ⟨hb, .all ⟨?_, rfl⟩⟩
      simp [hb, hl2]
    · have hl2 : g.reached[b.toNat]? = none := List.getElem?_eq_none (by simp [boolsV] at hl; omega)
      simp -dsimp -implicitDefEqProofs only [go_sem, reduceIte, Nat.reduceEqDiff, Nat.reduceAdd, Nat.reduceSub, Nat.reduceLeDiff, Nat.reduceLT, Nat.reduceMul, Int.reduceToNat, Int.reduceLT, Int.reduceLE, Int.reduceEq, Int.reduceNeg, hl, decide_false]
      exact .all ⟨by simp [hl2, vbool], rfl⟩
  · simp -dsimp -implicitDefEqProofs only [go_sem, reduceIte, Nat.reduceEqDiff, Nat.reduceAdd, Nat.reduceSub, Nat.reduceLeDiff, Nat.reduceLT, Nat.reduceMul, Int.reduceToNat, Int.reduceLT, Int.reduceLE, Int.reduceEq, Int.reduceNeg, hb, decide_false]
    exact .all ⟨by simp, rfl⟩
theorem row_ok (r : List (List Nat)) (hr : ∀ l ∈ r, l.length < 4294967296) (b : Int) (h : AHeap) : ACall Tryz.prog 63 [.fslice (rowsV r), .lit (.int .i64 b)] h fun v h' => v = slV (ints (if 0 ≤ b then (r[b.toNat]?).getD [] else [])) ∧ h' = h := by
  refine acall_z mixed xf63 rfl ?_
  unfold xc63 xr63 xn63
  simp -dsimp -implicitDefEqProofs only [go_sem, reduceIte, Nat.reduceEqDiff, Nat.reduceAdd, Nat.reduceSub, Nat.reduceLeDiff, Nat.reduceLT, Nat.reduceMul, Int.reduceToNat, Int.reduceLT, Int.reduceLE, Int.reduceEq, Int.reduceNeg, go_sem]
  by_cases hb : b < 0
  · simp -dsimp -implicitDefEqProofs only [go_sem, reduceIte, Nat.reduceEqDiff, Nat.reduceAdd, Nat.reduceSub, Nat.reduceLeDiff, Nat.reduceLT, Nat.reduceMul, Int.reduceToNat, Int.reduceLT, Int.reduceLE, Int.reduceEq, Int.reduceNeg, hb, decide_true]
    exact .all ⟨by rw [if_neg (by omega)]; rfl, rfl⟩
  · simp -dsimp -implicitDefEqProofs only [go_sem, reduceIte, Nat.reduceEqDiff, Nat.reduceAdd, Nat.reduceSub, Nat.reduceLeDiff, Nat.reduceLT, Nat.reduceMul, Int.reduceToNat, Int.reduceLT, Int.reduceLE, Int.reduceEq, Int.reduceNeg, hb, decide_false]
    by_cases hl : ((rowsV r).length : Int) ≤ b
    · simp -dsimp -implicitDefEqProofs only [go_sem, reduceIte, Nat.reduceEqDiff, Nat.reduceAdd, Nat.reduceSub, Nat.reduceLeDiff, Nat.reduceLT, Nat.reduceMul, Int.reduceToNat, Int.reduceLT, Int.reduceLE, Int.reduceEq, Int.reduceNeg, hl, decide_true]
      refine .all ⟨?_, rfl⟩
      rw [List.getElem?_eq_none (by simp [rowsV] at hl; omega)]
      simp [ints, slV]
    · have hl2 : b.toNat < r.length := by simp [rowsV] at hl; omega
      have hb2 : 0 ≤ b := by omega
      have hg : (rowsV r)[b.toNat]? = some [slV (ints (r[b.toNat]'hl2))] := by simp [rowsV, List.getElem?_map, List.getElem?_eq_getElem hl2]
      simp -dsimp -implicitDefEqProofs only [go_sem, reduceIte, Nat.reduceEqDiff, Nat.reduceAdd, Nat.reduceSub, Nat.reduceLeDiff, Nat.reduceLT, Nat.reduceMul, Int.reduceToNat, Int.reduceLT, Int.reduceLE, Int.reduceEq, Int.reduceNeg, hl, decide_false, hg, hb2]
      refine zcall_eq xf116 (Nat.le_refl _) (clone_ok _ ints_one (by rw [ints_len]; exact hr _ (List.getElem_mem ..)) h ints_below) ?_
      simp -dsimp -implicitDefEqProofs only [go_sem, reduceIte, Nat.reduceEqDiff, Nat.reduceAdd, Nat.reduceSub, Nat.reduceLeDiff, Nat.reduceLT, Nat.reduceMul, Int.reduceToNat, Int.reduceLT, Int.reduceLE, Int.reduceEq, Int.reduceNeg, go_sem]
      exact .all ⟨by simp [hl2, hb2], rfl⟩
theorem prev_ok (g : Gr) (hg : g.Small) (b : Int) (h : AHeap) : ACall Tryz.prog 22 [g.val, .lit (.int .i64 b)] h fun v h' => v = slV (ints (if 0 ≤ b then (g.prev[b.toNat]?).getD [] else [])) ∧ h' = h := by
  refine acall_z mixed xf22 rfl ?_
  unfold xc22 xr22 xn22 Gr.val Gr.cells
  simp -dsimp -implicitDefEqProofs only [go_sem, reduceIte, Nat.reduceEqDiff, Nat.reduceAdd, Nat.reduceSub, Nat.reduceLeDiff, Nat.reduceLT, Nat.reduceMul, Int.reduceToNat, Int.reduceLT, Int.reduceLE, Int.reduceEq, Int.reduceNeg, go_sem]
  refine zcall_eq xf63 (Nat.le_refl _) (row_ok g.prev hg.prev b h) ?_
  simp -dsimp -implicitDefEqProofs only [go_sem, reduceIte, Nat.reduceEqDiff, Nat.reduceAdd, Nat.reduceSub, Nat.reduceLeDiff, Nat.reduceLT, Nat.reduceMul, Int.reduceToNat, Int.reduceLT, Int.reduceLE, Int.reduceEq, Int.reduceNeg, go_sem]
  exact .all ⟨rfl, rfl⟩
end Go.AL
