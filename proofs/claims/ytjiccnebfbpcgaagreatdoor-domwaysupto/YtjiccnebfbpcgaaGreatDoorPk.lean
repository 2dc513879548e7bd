/- From what an argument reads us to the abstract picture: the function that is handed over. -/
import Derived.Test.YtjiccnebfbpcgaaGreatDoorR12
import Derived.Deep.Slices
set_option linter.unusedSimpArgs false
set_option linter.unusedVariables false
set_option linter.unusedSectionVars false
namespace Go.AL
open Go.Proofs Go.ChangeShapes Go.WideShapes
structure LR (C : Ctx) (us : List AVal) (cs : List Value) : Prop where
  len : us.length = cs.length
  rel : ∀ (i : Nat) v rv, us[i]? = some v → cs[i]? = some rv → VRel C v rv
  one : ∀ rv ∈ cs, rv.oneCell' = true
theorem LR.nil {C : Ctx} : LR C [] [] := ⟨rfl, fun i v rv h => by simp at h, fun rv h => by cases h⟩
theorem LR.single {C : Ctx} {v : AVal} {rv : Value} (h : VRel C v rv) (ho : rv.oneCell' = true) : LR C [v] [rv] :=
  ⟨rfl, fun i v' rv' h1 h2 => by
    cases i with
    | zero => simp at h1 h2; subst h1; subst h2; exact h
    | succ i => simp at h1, fun r hr => by simp at hr; subst hr; exact ho⟩
theorem LR.append {C : Ctx} {us bs : List AVal} {cs ds : List Value} (h : LR C us cs) (h' : LR C bs ds) : LR C (us ++ bs) (cs ++ ds) := by
  refine ⟨by rw [List.length_append, List.length_append, h.len, h'.len], fun i v rv h1 h2 => ?_, fun r hr => ?_⟩
  · by_cases hi : i < us.length
    · rw [List.getElem?_append_left hi] at h1
      rw [List.getElem?_append_left (by rw [← h.len]; exact hi)] at h2
      exact h.rel i v rv h1 h2
    · rw [List.getElem?_append_right (by omega)] at h1
      rw [List.getElem?_append_right (by rw [← h.len]; omega), ← h.len] at h2
      exact h'.rel _ v rv h1 h2
  · rcases List.mem_append.1 hr with hr | hr
    · exact h.one r hr
    · exact h'.one r hr
section
variable {H : Type} {enc : TypeId × Value → H} {P : Program} {w : World} {held : Bool} {C : Ctx}
def Rd (bulk : DataW H → Nat) (enc : TypeId × Value → H) (P : Program) (w : World) (held : Bool) (C : Ctx) {α : Type} (t : TypeId) (f : α → List AVal) (B : α → Nat) : Prop :=
  ∀ fuel cs d ps, DataW.trod enc P w 0 (fun _ => true) held fuel t cs = some (d, ps) → ∃ x, LR C (f x) cs ∧ B x ≤ bulk d
structure Bulk (bulk : DataW H → Nat) (all : List (DataW H) → Nat) : Prop where
  str : ∀ l, bulk (.lit (.string l)) = l.length + 1
  int : ∀ k n, bulk (.lit (.int k n)) = 1
  nil : bulk .nil = 1
  slice : ∀ a b, bulk (.slice a b) = all a + all b + 1
  agg : ∀ a, bulk (.agg a) = all a + 1
  anil : all [] = 0
  acons : ∀ d r, all (d :: r) = bulk d + all r
variable {bulk : DataW H → Nat} {all : List (DataW H) → Nat} (hb : Bulk bulk all)
include hb
theorem Rd.int {t : TypeId} (ht : P.underlying t = some (.int .i64)) : Rd bulk enc P w held C t (fun n : Int => [.lit (.int .i64 n)]) fun _ => 1 := by
  intro fuel cs d ps h
  obtain ⟨n, rfl, hx, _⟩ := DataW.trod_int ht h
  cases hx
  exact ⟨n, .single (.lit _) rfl, by rw [hb.int]; exact Nat.le_refl _⟩
theorem Rd.str {t : TypeId} (ht : P.underlying t = some .string) : Rd bulk enc P w held C t (fun l : List UInt8 => [.str l]) fun l => l.length + 1 := by
  intro fuel cs d ps h
  obtain ⟨s, rfl, hx, _⟩ := DataW.trod_string ht h
  cases hx
  exact ⟨s.data.toList, .single (.str _ _ rfl) rfl, by rw [hb.str]; exact Nat.le_refl _⟩
theorem Rd.map {α β : Type} {t : TypeId} {f : α → List AVal} {B : α → Nat} (h : Rd bulk enc P w held C t f B) {f' : β → List AVal} {B' : β → Nat} (g : α → β) (hf : ∀ x, f' (g x) = f x) (hB : ∀ x, B' (g x) ≤ B x) : Rd bulk enc P w held C t f' B' := by
  intro fuel cs d ps hx
  obtain ⟨x, h1, h2⟩ := h fuel cs d ps hx
  exact ⟨g x, by rw [hf]; exact h1, Nat.le_trans (hB x) h2⟩
theorem Rd.slice {α : Type} [Inhabited α] {t e : TypeId} {n : Nat} {f : α → List AVal} {B : α → Nat} (he : Rd bulk enc P w held C e f B) (ht : P.underlying t = some (.slice e)) (hc : P.cellsOf e = n) (hn : 0 < n)
    (hC : ∀ b o v, w.cell? ⟨b, o, none⟩ = some v → v.oneCell' = true → C.fc b o = some v) (hf : ∀ x, (f x).length = n) :
    Rd bulk enc P w held C t (fun l : List α => [.fslice (l.map f)]) fun l => (l.map B).sum + 1 := by
  intro fuel cs d ps h
  rcases Deep.open_slice ht h with ⟨rfl, hx⟩ | ⟨a, len, cap, m, k, D, Pl, rfl, _, hl, _, hm, hx, hcell⟩
  · cases hx
    exact ⟨[], .single (.fnil _) rfl, by rw [hb.nil]; exact Nat.le_refl _⟩
  · simp only [if_true] at hm
    subst hm
    cases hx
    rw [hc] at hcell
    obtain ⟨CS, hCS⟩ := Deep.choose_lt (α := List Value) hcell
    obtain ⟨X, hX⟩ := Deep.choose_lt (α := α) (n := m) (p := fun i x => LR C (f x) (CS i) ∧ B x ≤ bulk (D i)) fun i hi => he _ _ _ _ (hCS i hi).2
    have hbulk : ∀ (l : List Nat), (∀ i ∈ l, i < m) → ((l.map X).map B).sum ≤ all (l.map D) := by
      intro l
      induction l with
      | nil => intro _; exact Nat.zero_le _
      | cons i l ih =>
        intro hl
        have h1 := ih fun j hj => hl j (by simp [hj])
        have h2 := (hX i (hl i (by simp))).2
        simp only [List.map_cons, List.sum_cons, hb.acons]; omega
    refine ⟨(List.range len).map X, .single ?_ rfl, ?_⟩
    · rcases Nat.eq_zero_or_pos m with rfl | hm
      · have : len = 0 := by omega
        subst this
        exact .fnil _
      · have hsp : a.spot = none := by
          obtain ⟨_, h2, h3⟩ := World.cells?_some (hCS 0 hm).1
          have h4 := h3 0 hn
          rw [List.getElem?_eq_getElem (by omega)] at h4
          have h5 : ((a.add (0 * n)).add 0) = a := by simp [Addr.add]
          rw [h5] at h4
          unfold World.cell? at h4
          split at h4
          · split at h4
            · cases h4
            · rename_i hs; simpa using hs
          · cases h4
        obtain ⟨b, o, sp⟩ := a
        simp only at hsp
        subst hsp
        have hadd : ∀ i j : Nat, ((⟨b, o, none⟩ : Addr).add (i * n)).add j = ⟨b, o + i * n + j, none⟩ := by
          intro i j
          unfold Addr.add
          by_cases h1 : i * n = 0 <;> by_cases h2 : j = 0 <;> simp [h1, h2]
        have hmem : ∀ (i : Nat) e, ((((List.range len).map X).map f)[i]? = some e) → i < len ∧ e = f (X i) := by
          intro i e hi
          rw [List.getElem?_map, List.getElem?_map] at hi
          cases hr : (List.range len)[i]? with
          | none => rw [hr] at hi; cases hi
          | some k =>
            rw [hr] at hi
            have := List.getElem?_eq_some_iff.1 hr
            obtain ⟨h1, h2⟩ := this
            rw [List.length_range] at h1
            rw [List.getElem_range] at h2
            subst h2
            simp at hi
            exact ⟨h1, hi.symm⟩
        have hcl : ∀ i j, i < m → j < n → ∃ rv, (CS i)[j]? = some rv ∧ w.cell? ⟨b, o + i * n + j, none⟩ = some rv := by
          intro i j hi hj
          obtain ⟨_, h2, h3⟩ := World.cells?_some (hCS i hi).1
          refine ⟨(CS i)[j]'(by omega), List.getElem?_eq_getElem _, ?_⟩
          rw [← hadd, h3 j hj, List.getElem?_eq_getElem]
        have key := VRel.fslice (C := C) (((List.range len).map X).map f) b o n m (fun i j => (CS i).getD j undef) (by simp; exact hl) (fun i e hi => by rw [(hmem i e hi).2, hf])
          (fun i j e v hi hj => by
            obtain ⟨h1, rfl⟩ := hmem i e hi
            have hjn : j < n := by have := (List.getElem?_eq_some_iff.1 hj).1; rw [hf] at this; exact this
            obtain ⟨rv, q1, q2⟩ := hcl i j (by omega) hjn
            show C.fc b (o + i * n + j) = some ((CS i).getD j undef)
            rw [List.getD_eq_getElem?_getD, q1]
            exact hC _ _ _ q2 ((hX i (by omega)).1.one rv (List.mem_of_getElem? q1)))
          (fun i j e v hi hj => by
            obtain ⟨h1, rfl⟩ := hmem i e hi
            have hjn : j < n := by have := (List.getElem?_eq_some_iff.1 hj).1; rw [hf] at this; exact this
            obtain ⟨rv, q1, q2⟩ := hcl i j (by omega) hjn
            show VRel C v ((CS i).getD j undef)
            rw [List.getD_eq_getElem?_getD, q1]
            exact (hX i (by omega)).1.rel j v rv hj q1)
        simp only [List.length_map, List.length_range] at key
        exact key
    · rw [hb.slice]
      show (((List.range len).map X).map B).sum + 1 ≤ _
      have := hbulk (List.range len) fun i hi => by have := List.mem_range.1 hi; omega
      omega
omit hb in
def RdF (bulk : DataW H → Nat) (enc : TypeId × Value → H) (P : Program) (w : World) (held : Bool) (C : Ctx) {α : Type} (fs : List (TypeId × Nat)) (off : Nat) (f : α → List AVal) (B : α → Nat) : Prop :=
  ∀ n (cs : List Value) (xs : List (DataW H × List MemPlace)), xs.length = fs.length → (∀ (i : Nat) (fd : TypeId × Nat), fs[i]? = some fd → DataW.trod enc P w 0 (fun _ => true) held n fd.1 ((cs.drop fd.2).take (P.cellsOf fd.1)) = xs[i]?) →
    ∃ x, LR C (f x) ((cs.drop off).take (f x).length) ∧ B x ≤ (xs.map fun y => bulk y.1).sum
omit hb in
theorem RdF.nil {off : Nat} : RdF bulk enc P w held C [] off (fun _ : Unit => []) fun _ => 0 :=
  fun n cs xs _ _ => ⟨(), by simp; exact .nil, Nat.zero_le _⟩
omit hb in
theorem RdF.cons {α β : Type} {fs : List (TypeId × Nat)} {t : TypeId} {off k : Nat} {f : α → List AVal} {B : α → Nat} {g : β → List AVal} {D : β → Nat} (h : Rd bulk enc P w held C t f B) (hk : P.cellsOf t = k)
    (hf : ∀ x, (f x).length = k) (hr : RdF bulk enc P w held C fs (off + k) g D) : RdF bulk enc P w held C ((t, off) :: fs) off (fun p : α × β => f p.1 ++ g p.2) fun p => B p.1 + D p.2 := by
  intro n cs xs hl hx
  match xs, hl with
  | y :: ys, hl =>
    have h0 := hx 0 (t, off) rfl
    obtain ⟨x, h1, h2⟩ := h n _ y.1 y.2 h0
    obtain ⟨z, h3, h4⟩ := hr n cs ys (by simpa using hl) fun i fd' hi => hx (i + 1) fd' hi
    refine ⟨(x, z), ?_, ?_⟩
    · have e : (cs.drop off).take (f x ++ g z).length = (cs.drop off).take (P.cellsOf t) ++ (cs.drop (off + k)).take (g z).length := by
        rw [List.length_append, hf, hk, List.take_add, List.drop_drop]
      show LR C (f x ++ g z) ((cs.drop off).take (f x ++ g z).length)
      rw [e]
      exact h1.append h3
    · simp only [List.map_cons, List.sum_cons]; omega
omit hb in
def structT (P : Program) (t : TypeId) : Option (List (TypeId × Nat)) := match P.underlying t with
  | some (.struct fs) => some (fs.toList.map fun f => (f.type, f.offset))
  | _ => none
theorem Rd.struct {α : Type} {t : TypeId} {ts : List (TypeId × Nat)} {f : α → List AVal} {B : α → Nat} (ht : structT P t = some ts) {k : Nat} (hk : P.cellsOf t = k) (h : RdF bulk enc P w held C ts 0 f B) (hf : ∀ x, (f x).length = k) :
    Rd bulk enc P w held C t f fun x => B x + 1 := by
  intro fuel cs d ps hx
  obtain ⟨fs, hu, rfl⟩ : ∃ fs, P.underlying t = some (.struct fs) ∧ fs.toList.map (fun f => (f.type, f.offset)) = ts := by
    unfold structT at ht
    split at ht
    · rename_i fs hu; exact ⟨fs, hu, Option.some.inj ht⟩
    · cases ht
  obtain ⟨xs, n, _, hxx, hl, hlen, hfl⟩ := DataW.trod_struct hu hx
  cases hxx
  obtain ⟨x, h1, h2⟩ := h n cs xs (by simpa using hlen) fun i fd hi => by
    rw [List.getElem?_map] at hi
    cases hq : fs.toList[i]? with
    | none => rw [hq] at hi; cases hi
    | some fd0 =>
      rw [hq] at hi
      cases hi
      exact hfl i fd0 (by simpa using hq)
  refine ⟨x, ?_, ?_⟩
  · rw [List.drop_zero, hf, ← hk, ← hl, List.take_length] at h1
    exact h1
  · rw [hb.agg]
    have : (xs.map fun y => bulk y.1).sum = all (xs.map (·.1)) := by
      clear h1 h2 hfl hlen hx
      induction xs with
      | nil => rw [List.map_nil, List.map_nil, hb.anil]; rfl
      | cons y ys ih => simp only [List.map_cons, List.sum_cons, hb.acons, ih]
    show B x + 1 ≤ _
    omega
end
end Go.AL
namespace Go.AL
open Go.Proofs Go.ChangeShapes Go.WideShapes
def bStr (l : List UInt8) : Nat := l.length + 1
def bVar (v : List UInt8 × List UInt8) : Nat := bStr v.1 + bStr v.2
def bPl (p : Pl) : Nat := bStr p.1 + ((p.2.map bStr).sum + 1)
def bArm (a : List UInt8 × List UInt8 × List UInt8) : Nat := bStr a.1 + (bStr a.2.1 + bStr a.2.2)
def bStmt (s : GStmt) : Nat := bPl s.to + (bStr s.name + (bStr s.variant + ((s.args.map bPl).sum + 1)))
def bTerm (t : GTerm) : Nat := bPl t.to + (bStr t.name + (((t.args.map bPl).sum + 1) + (((t.blocks.map bStr).sum + 1) + ((t.arms.map bArm).sum + 1))))
def bBlock (b : GBlock) : Nat := bStr b.name + (((b.stmts.map bStmt).sum + 1) + bTerm b.term)
def bFunc (f : GFunc) : Nat := bStr f.name + (((f.params.map bVar).sum + 1) + (((f.locals.map bVar).sum + 1) + (bStr f.result + ((f.blocks.map bBlock).sum + 1))))
theorem sum_len {α : Type} {B : α → Nat} (hB : ∀ x, 1 ≤ B x) (l : List α) : l.length ≤ (l.map B).sum := by
  induction l with
  | nil => exact Nat.zero_le _
  | cons x l ih => have := hB x; simp only [List.length_cons, List.map_cons, List.sum_cons]; omega
theorem sum_mem {α : Type} {B : α → Nat} {l : List α} {x : α} (hx : x ∈ l) : B x ≤ (l.map B).sum := by
  induction l with
  | nil => cases hx
  | cons y l ih =>
    simp only [List.map_cons, List.sum_cons]
    rcases List.mem_cons.1 hx with rfl | hx
    · omega
    · have := ih hx; omega
theorem flat_len {α β : Type} {B : α → Nat} {g : α → List β} {c : Nat} (hg : ∀ x, (g x).length ≤ c * B x) (l : List α) : ((l.map g).flatten).length ≤ c * (l.map B).sum := by
  induction l with
  | nil => exact Nat.zero_le _
  | cons x l ih =>
    have := hg x
    simp only [List.map_cons, List.flatten_cons, List.length_append, List.sum_cons, Nat.mul_add]; omega
theorem bStr_pos (l : List UInt8) : 1 ≤ bStr l := by unfold bStr; omega
theorem bPl_pos (p : Pl) : 1 ≤ bPl p := by unfold bPl; omega
theorem bVar_pos (p : List UInt8 × List UInt8) : 1 ≤ bVar p := by unfold bVar bStr; omega
theorem bArm_pos (p : List UInt8 × List UInt8 × List UInt8) : 1 ≤ bArm p := by unfold bArm bStr; omega
theorem bStmt_pos (p : GStmt) : 1 ≤ bStmt p := by unfold bStmt; omega
theorem bBlock_pos (p : GBlock) : 1 ≤ bBlock p := by unfold bBlock; omega
theorem key_b (s : List UInt8) : (keyB s).length ≤ 100 * bStr s := by have := keyB_len s; unfold bStr; omega
theorem keys_b (l : List (List UInt8)) : (keysB l).length ≤ 100 * ((l.map bStr).sum + 1) := by
  have h1 := digU_len (l.length : Int)
  have h2 := flat_len key_b l
  unfold keysB
  simp only [List.length_append, List.length_cons, List.length_nil]; omega
theorem place_b (p : Pl) : (placeB p).length ≤ 100 * bPl p := by
  have h1 := key_b p.1
  have h2 := keys_b p.2
  unfold placeB bPl
  simp only [List.length_append]; omega
theorem places_b (l : List Pl) : (placesB l).length ≤ 50 + 100 * (l.map bPl).sum := by
  have h1 := digU_len (l.length : Int)
  have h2 := flat_len place_b l
  unfold placesB
  simp only [List.length_append, List.length_cons, List.length_nil]; omega
theorem place1_b (p : Pl) : (placesB [p]).length ≤ 50 + 100 * bPl p := by have := places_b [p]; simpa using this
theorem var_b (p : List UInt8 × List UInt8) : (varB p).length ≤ 100 * bVar p := by
  have h1 := key_b p.1
  have h2 := key_b p.2
  unfold varB bVar
  simp only [List.length_append]; omega
theorem vars_b (l : List (List UInt8 × List UInt8)) : (varsB l).length ≤ 100 * ((l.map bVar).sum + 1) := by
  have h1 := digU_len (l.length : Int)
  have h2 := flat_len var_b l
  unfold varsB
  simp only [List.length_append, List.length_cons, List.length_nil]; omega
theorem arm_b (a : List UInt8 × List UInt8 × List UInt8) : (armB a).length ≤ 100 * bArm a := by
  have h1 := key_b a.1
  have h2 := key_b a.2.1
  have h3 := key_b a.2.2
  unfold armB bArm
  simp only [List.length_append]; omega
theorem stmt_b (s : GStmt) : (stmtB s).length ≤ 200 * bStmt s := by
  have h1 := numB_len s.kind
  have h2 := place1_b s.to
  have h3 := numB_len s.num
  have h4 := key_b s.name
  have h5 := key_b s.variant
  have h6 := places_b s.args
  unfold stmtB bStmt
  simp only [List.length_append, List.length_cons, List.length_nil]; omega
theorem term_b (t : GTerm) : (termB t).length ≤ 200 * bTerm t := by
  have h1 := numB_len t.kind
  have h2 := place1_b t.to
  have h4 := key_b t.name
  have h6 := places_b t.args
  have h5 := keys_b t.blocks
  have h7 := digU_len (t.arms.length : Int)
  have h8 := flat_len arm_b t.arms
  unfold termB bTerm
  simp only [List.length_append, List.length_cons, List.length_nil]; omega
theorem block_b (b : GBlock) : (blockB b).length ≤ 300 * bBlock b := by
  have h1 := key_b b.name
  have h7 := digU_len (b.stmts.length : Int)
  have h8 := flat_len stmt_b b.stmts
  have h2 := term_b b.term
  unfold blockB bBlock
  simp only [List.length_append, List.length_cons, List.length_nil]; omega
theorem func_b (f : GFunc) : (funcB f).length ≤ 300 * bFunc f := by
  have h1 := key_b f.name
  have h2 := vars_b f.params
  have h3 := vars_b f.locals
  have h4 := key_b f.result
  have h7 := digU_len (f.blocks.length : Int)
  have h8 := flat_len block_b f.blocks
  unfold funcB bFunc
  simp only [List.length_append, List.length_cons, List.length_nil]; omega
theorem toL_b (p : Pl) : (toL p).length ≤ 1 := by unfold toL; split <;> simp
theorem usesS_b (s : GStmt) : (usesS s).length ≤ 1 * bStmt s := by
  have h1 := sum_len bPl_pos s.args
  have h2 := toL_b s.to
  unfold usesS bStmt
  simp only [List.length_append]; omega
theorem usesB_b (b : GBlock) : (usesB b).length ≤ 1 * bBlock b := by
  have h1 := flat_len usesS_b b.stmts
  have h2 := toL_b b.term.to
  have h3 := sum_len bPl_pos b.term.args
  unfold usesB bBlock bTerm
  simp only [List.length_append]; omega
theorem usesF_b (f : GFunc) : (usesF f).length ≤ bFunc f := by
  have h1 := flat_len usesB_b f.blocks
  unfold usesF bFunc
  omega
theorem bFunc_eq (f : GFunc) : bFunc f = bStr f.name + (((f.params.map bVar).sum + 1) + (((f.locals.map bVar).sum + 1) + (bStr f.result + ((f.blocks.map bBlock).sum + 1)))) := rfl
theorem bBlock_eq (b : GBlock) : bBlock b = bStr b.name + (((b.stmts.map bStmt).sum + 1) + bTerm b.term) := rfl
theorem bStmt_eq (s : GStmt) : bStmt s = bPl s.to + (bStr s.name + (bStr s.variant + ((s.args.map bPl).sum + 1))) := rfl
theorem bTerm_eq (t : GTerm) : bTerm t = bPl t.to + (bStr t.name + (((t.args.map bPl).sum + 1) + (((t.blocks.map bStr).sum + 1) + ((t.arms.map bArm).sum + 1)))) := rfl
theorem bPl_eq (p : Pl) : bPl p = bStr p.1 + ((p.2.map bStr).sum + 1) := rfl
theorem func_ok {f : GFunc} (h : bFunc f ≤ 1048576) : FuncOk f := by
  have hu := usesF_b f
  have hk := func_b f
  refine ⟨⟨?_, ?_, ?_, fun b hb => ⟨?_, fun s hs => ?_, ?_⟩⟩, by omega, ?_⟩
  · have := sum_len bVar_pos f.params; rw [bFunc_eq] at h; omega
  · have := sum_len bVar_pos f.locals; rw [bFunc_eq] at h; omega
  · have := sum_len bBlock_pos f.blocks; rw [bFunc_eq] at h; omega
  · have h1 := sum_mem (B := bBlock) hb
    have h2 := sum_len bStmt_pos b.stmts
    rw [bFunc_eq] at h; rw [bBlock_eq b] at h1; omega
  · have h1 := sum_mem (B := bBlock) hb
    have h2 := sum_mem (B := bStmt) hs
    have h3 := sum_len bStr_pos s.to.2
    have h4 := sum_len bPl_pos s.args
    rw [bFunc_eq] at h; rw [bBlock_eq b] at h1; rw [bStmt_eq s, bPl_eq s.to] at h2
    refine ⟨by omega, by omega, fun p hp => ?_⟩
    have h5 := sum_mem (B := bPl) hp
    have h6 := sum_len bStr_pos p.2
    rw [bPl_eq p] at h5
    omega
  · have h1 := sum_mem (B := bBlock) hb
    have h3 := sum_len bStr_pos b.term.to.2
    have h4 := sum_len bPl_pos b.term.args
    have h5 := sum_len bStr_pos b.term.blocks
    have h6 := sum_len bArm_pos b.term.arms
    rw [bFunc_eq] at h; rw [bBlock_eq b, bTerm_eq, bPl_eq b.term.to] at h1
    refine ⟨by omega, by omega, fun p hp => ?_, by omega, by omega⟩
    have h7 := sum_mem (B := bPl) hp
    have h8 := sum_len bStr_pos p.2
    rw [bPl_eq p] at h7
    omega
  · unfold progB
    have d0 := digU_len ((([] : List GStruct).length : Nat) : Int)
    have d1 := digU_len ((([] : List GEnum).length : Nat) : Int)
    have d2 := digU_len ((([f] : List GFunc).length : Nat) : Int)
    simp only [List.map_nil, List.flatten_nil, List.map_cons, List.flatten_cons, List.append_nil, List.length_append, List.length_cons, List.length_nil] at d0 d1 d2 ⊢
    omega
end Go.AL
