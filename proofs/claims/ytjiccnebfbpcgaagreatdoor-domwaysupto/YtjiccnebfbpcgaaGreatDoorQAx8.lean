/- The rules by which a walk is reckoned by rewriting: what goes on behind an operation stays shut. -/
import Derived.Test.YtjiccnebfbpcgaaGreatDoorQAx3
set_option linter.unusedSimpArgs false
set_option linter.unusedVariables false
set_option linter.unusedSectionVars false
namespace Go.AL
inductive Sh {α : Type} (a : α) : Type
  | mk
section defs
variable (P : Program) (n0 : Nat) (md : Option Nat)
def ZW (x : XCode) (Q : Exit → ASt → Prop) (s : ASt) (_ : Sh (x, Q)) : Prop := XW P n0 md x Q s
def ZOps (os : List XOper) (t : ATab) (h : AHeap) (K : ATab → AHeap → Prop) (_ : Sh (os, K)) : Prop := XOps P os t h K
def ZOp (o : XOp) (t : ATab) (h : AHeap) (K : AVal → AHeap → Prop) (_ : Sh K) : Prop := XOp1 P o t h K
def ZOpD (o : XOp) (t : ATab) (h : AHeap) (K : AVal → AHeap → Prop) (_ : Sh K) : Prop := XOpD P o t h K
def ZGuard (x : AVal) (b : Bool) (A B : Prop) (_ : Sh (A, B)) : Prop := AGuard x b A B
def ZPick (x : AVal) (A B : Prop) (_ : Sh (A, B)) : Prop :=
  match x with
  | .lit (.bool q) => (q = true → A) ∧ (q = false → B)
  | _ => False
def ZLoad (h : AHeap) (p : AVal) (n : Nat) (agg : Bool) (K : AVal → Prop) (_ : Sh K) : Prop := ALoad h p n agg K
def ZStore (h : AHeap) (p v : AVal) (n : Nat) (K : AHeap → Prop) (_ : Sh K) : Prop := AStore h p v n K
def ZNilc (x : AVal) (A : Prop) (_ : Sh A) : Prop := ANilc x A
def ZBin (q : EqK) (op : BinOp) (x y : AVal) (K : AVal → Prop) (_ : Sh K) : Prop := ABin q op x y K
def ZUn (op : UnOp) (x : AVal) (K : AVal → Prop) (_ : Sh K) : Prop := AUn op x K
def ZConv (q : ConvK) (x : AVal) (K : AVal → Prop) (_ : Sh K) : Prop := AConv q x K
def ZField (x : AVal) (o : Nat) (K : AVal → Prop) (_ : Sh K) : Prop := AField x o K
def ZFieldV (x : AVal) (o n : Nat) (agg : Bool) (K : AVal → Prop) (_ : Sh K) : Prop := AFieldV x o n agg K
def ZIdx (x i : AVal) (e : Nat) (K : AVal → Prop) (_ : Sh K) : Prop := AIdx x i e K
def ZIndexS (x i : AVal) (K : AVal → Prop) (_ : Sh K) : Prop := AIndexS x i K
def ZFill (ps : List (Nat × Nat)) (cs : List AVal) (q : List (Nat × AVal)) (K : List AVal → Prop) (_ : Sh K) : Prop := AFill ps cs q K
def ZSet (n : Nat) (es : List (List AVal)) (q : List (Nat × AVal)) (K : List (List AVal) → Prop) (_ : Sh K) : Prop := ASet n es q K
def ZMakeS (h : AHeap) (z : List AVal) (x y : AVal) (K : AVal → AHeap → Prop) (_ : Sh K) : Prop := AMakeS h z x y K
def ZExt (x : AVal) (i : Nat) (K : AVal → Prop) (_ : Sh K) : Prop :=
  match x with
  | .tuple vs => optK vs[i]? K
  | _ => False
def ZSlice (x : AVal) (lo hi : Option AVal) (e : Nat) (K : AVal → Prop) (_ : Sh K) : Prop := ASlice x lo hi e K
def ZBnd (x : Option AVal) (d : Nat) (K : Nat → Prop) (_ : Sh K) : Prop := ABnd x d K
def ZLen (x : AVal) (h : AHeap) (K : AVal → Prop) (_ : Sh K) : Prop := ALen x h K
def ZElems (h : AHeap) (x : AVal) (e : Nat) (K : List (List AVal) → Prop) (_ : Sh K) : Prop := AElems h x e K
def ZApp1 (h : AHeap) (s : AVal) (e : Nat) (new : List (List AVal)) (K : AVal → AHeap → Prop) (_ : Sh K) : Prop := AApp1 h s e new K
def ZCallV (f : AVal) (args : List AVal) (h : AHeap) (K : AVal → AHeap → Prop) (_ : Sh K) : Prop := ACallV P f args h K
def ZCall (f : FuncId) (args : List AVal) (h : AHeap) (K : AVal → AHeap → Prop) (_ : Sh K) : Prop := ACall P f args h K
def ZYield (a : Nat) (args : List AVal) (h : AHeap) (K : AVal → AHeap → Prop) (_ : Sh K) : Prop := AYield P a args h K
def ZOpt {α : Type} (o : Option α) (K : α → Prop) (_ : Sh K) : Prop := optK o K
def ZRows (o : AObj) (K : List (List AVal) → Prop) (_ : Sh K) : Prop :=
  match o with
  | .rows es => K es
  | _ => False
def ZResV (rs : List XRes) (t : ATab) (h : AHeap) (K : AVal → Prop) (_ : Sh K) : Prop := XResV rs t h K
def ZLeave (d : List ADef) (h : AHeap) (K : AHeap → Prop) (_ : Sh K) : Prop := ALeave d h K
def ZDrw (os : List XOper) (pl : List DP) (j : Nat) (t : ATab) (h : AHeap) (hist : List (Nat × AHeap)) (Z : List AObj) (nz : Nat) (chk : List (Nat × (AHeap → Prop))) (K : ATab → AHeap → Prop) (_ : Sh (os, pl, K)) : Prop :=
  XDrw P os pl j t h hist Z nz chk K
end defs
section vals
variable {l : List UInt8} {cs f1 f2 : List AVal} {a i o e n m1 m2 : Nat} {c : Option Nat} {es : List (List AVal)} {ms : List (AVal × AVal)} {fn : Fn} {ty : TypeId} {v : AVal} {k : IntKind} {z : Int} {b : Bool} {p : Option Addr} {p2 : Option Nat}
@[go_sem] theorem notNilI_junk : AVal.notNilI (.junk) = false := rfl
@[go_sem] theorem notNilI_str : AVal.notNilI (.str l) = true := rfl
@[go_sem] theorem notNilI_agg : AVal.notNilI (.agg cs) = true := rfl
@[go_sem] theorem notNilI_tuple : AVal.notNilI (.tuple cs) = true := rfl
@[go_sem] theorem notNilI_ptr : AVal.notNilI (.ptr a i o) = true := rfl
@[go_sem] theorem notNilI_fptr : AVal.notNilI (.fptr cs o) = true := rfl
@[go_sem] theorem notNilI_slice : AVal.notNilI (.slice a e i n c) = true := rfl
@[go_sem] theorem notNilI_fslice : AVal.notNilI (.fslice es) = true := rfl
@[go_sem] theorem notNilI_gs : AVal.notNilI (.gs a e es) = true := rfl
@[go_sem] theorem notNilI_eslice : AVal.notNilI (.eslice) = true := rfl
@[go_sem] theorem notNilI_func : AVal.notNilI (.func fn f1 f2) = true := rfl
@[go_sem] theorem notNilI_yieldf : AVal.notNilI (.yieldf a) = true := rfl
@[go_sem] theorem notNilI_iface : AVal.notNilI (.iface ty v) = true := rfl
@[go_sem] theorem notNilI_map : AVal.notNilI (.map a) = true := rfl
@[go_sem] theorem notNilI_fmap : AVal.notNilI (.fmap ms) = true := rfl
@[go_sem] theorem notNilI_iter : AVal.notNilI (.iter a) = true := rfl
@[go_sem] theorem notNilI_lit_int : AVal.notNilI (.lit (.int k z)) = true := rfl
@[go_sem] theorem notNilI_lit_bool : AVal.notNilI (.lit (.bool b)) = true := rfl
@[go_sem] theorem notNilI_lit_pointer : AVal.notNilI (.lit (.pointer p)) = true := rfl
@[go_sem] theorem notNilI_lit_slice : AVal.notNilI (.lit (.slice p m1 m2)) = true := rfl
@[go_sem] theorem notNilI_lit_map : AVal.notNilI (.lit (.map p2)) = true := rfl
@[go_sem] theorem notNilI_lit_nilFunc : AVal.notNilI (.lit (.nilFunc)) = true := rfl
@[go_sem] theorem notNilI_lit_nilIface : AVal.notNilI (.lit (.nilIface)) = false := rfl
@[go_sem] theorem cell1_junk : AVal.cell1 (.junk) = false := rfl
@[go_sem] theorem cell1_str : AVal.cell1 (.str l) = true := rfl
@[go_sem] theorem cell1_agg : AVal.cell1 (.agg cs) = false := rfl
@[go_sem] theorem cell1_tuple : AVal.cell1 (.tuple cs) = false := rfl
@[go_sem] theorem cell1_ptr : AVal.cell1 (.ptr a i o) = true := rfl
@[go_sem] theorem cell1_fptr : AVal.cell1 (.fptr cs o) = true := rfl
@[go_sem] theorem cell1_slice : AVal.cell1 (.slice a e i n c) = true := rfl
@[go_sem] theorem cell1_fslice : AVal.cell1 (.fslice es) = true := rfl
@[go_sem] theorem cell1_gs : AVal.cell1 (.gs a e es) = true := rfl
@[go_sem] theorem cell1_eslice : AVal.cell1 (.eslice) = true := rfl
@[go_sem] theorem cell1_func : AVal.cell1 (.func fn f1 f2) = true := rfl
@[go_sem] theorem cell1_yieldf : AVal.cell1 (.yieldf a) = true := rfl
@[go_sem] theorem cell1_iface : AVal.cell1 (.iface ty v) = true := rfl
@[go_sem] theorem cell1_map : AVal.cell1 (.map a) = true := rfl
@[go_sem] theorem cell1_fmap : AVal.cell1 (.fmap ms) = true := rfl
@[go_sem] theorem cell1_iter : AVal.cell1 (.iter a) = true := rfl
@[go_sem] theorem cell1_lit_int : AVal.cell1 (.lit (.int k z)) = true := rfl
@[go_sem] theorem cell1_lit_bool : AVal.cell1 (.lit (.bool b)) = true := rfl
@[go_sem] theorem cell1_lit_pointer : AVal.cell1 (.lit (.pointer p)) = true := rfl
@[go_sem] theorem cell1_lit_slice : AVal.cell1 (.lit (.slice p m1 m2)) = true := rfl
@[go_sem] theorem cell1_lit_map : AVal.cell1 (.lit (.map p2)) = true := rfl
@[go_sem] theorem cell1_lit_nilFunc : AVal.cell1 (.lit (.nilFunc)) = true := rfl
@[go_sem] theorem cell1_lit_nilIface : AVal.cell1 (.lit (.nilIface)) = true := rfl
@[go_sem] theorem isStr_junk : AVal.isStr (.junk) = false := rfl
@[go_sem] theorem isStr_str : AVal.isStr (.str l) = true := rfl
@[go_sem] theorem isStr_agg : AVal.isStr (.agg cs) = false := rfl
@[go_sem] theorem isStr_tuple : AVal.isStr (.tuple cs) = false := rfl
@[go_sem] theorem isStr_ptr : AVal.isStr (.ptr a i o) = false := rfl
@[go_sem] theorem isStr_fptr : AVal.isStr (.fptr cs o) = false := rfl
@[go_sem] theorem isStr_slice : AVal.isStr (.slice a e i n c) = false := rfl
@[go_sem] theorem isStr_fslice : AVal.isStr (.fslice es) = false := rfl
@[go_sem] theorem isStr_gs : AVal.isStr (.gs a e es) = false := rfl
@[go_sem] theorem isStr_eslice : AVal.isStr (.eslice) = false := rfl
@[go_sem] theorem isStr_func : AVal.isStr (.func fn f1 f2) = false := rfl
@[go_sem] theorem isStr_yieldf : AVal.isStr (.yieldf a) = false := rfl
@[go_sem] theorem isStr_iface : AVal.isStr (.iface ty v) = false := rfl
@[go_sem] theorem isStr_map : AVal.isStr (.map a) = false := rfl
@[go_sem] theorem isStr_fmap : AVal.isStr (.fmap ms) = false := rfl
@[go_sem] theorem isStr_iter : AVal.isStr (.iter a) = false := rfl
@[go_sem] theorem isStr_lit_int : AVal.isStr (.lit (.int k z)) = false := rfl
@[go_sem] theorem isStr_lit_bool : AVal.isStr (.lit (.bool b)) = false := rfl
@[go_sem] theorem isStr_lit_pointer : AVal.isStr (.lit (.pointer p)) = false := rfl
@[go_sem] theorem isStr_lit_slice : AVal.isStr (.lit (.slice p m1 m2)) = false := rfl
@[go_sem] theorem isStr_lit_map : AVal.isStr (.lit (.map p2)) = false := rfl
@[go_sem] theorem isStr_lit_nilFunc : AVal.isStr (.lit (.nilFunc)) = false := rfl
@[go_sem] theorem isStr_lit_nilIface : AVal.isStr (.lit (.nilIface)) = false := rfl
@[go_sem] theorem acells_str : acells (.str l) = some [(.str l)] := rfl
@[go_sem] theorem acells_ptr : acells (.ptr a i o) = some [(.ptr a i o)] := rfl
@[go_sem] theorem acells_fptr : acells (.fptr cs o) = some [(.fptr cs o)] := rfl
@[go_sem] theorem acells_slice : acells (.slice a e i n c) = some [(.slice a e i n c)] := rfl
@[go_sem] theorem acells_fslice : acells (.fslice es) = some [(.fslice es)] := rfl
@[go_sem] theorem acells_gs : acells (.gs a e es) = some [(.gs a e es)] := rfl
@[go_sem] theorem acells_eslice : acells (.eslice) = some [(.eslice)] := rfl
@[go_sem] theorem acells_func : acells (.func fn f1 f2) = some [(.func fn f1 f2)] := rfl
@[go_sem] theorem acells_yieldf : acells (.yieldf a) = some [(.yieldf a)] := rfl
@[go_sem] theorem acells_iface : acells (.iface ty v) = some [(.iface ty v)] := rfl
@[go_sem] theorem acells_map : acells (.map a) = some [(.map a)] := rfl
@[go_sem] theorem acells_fmap : acells (.fmap ms) = some [(.fmap ms)] := rfl
@[go_sem] theorem acells_iter : acells (.iter a) = some [(.iter a)] := rfl
@[go_sem] theorem acells_lit_int : acells (.lit (.int k z)) = some [(.lit (.int k z))] := rfl
@[go_sem] theorem acells_lit_bool : acells (.lit (.bool b)) = some [(.lit (.bool b))] := rfl
@[go_sem] theorem acells_lit_pointer : acells (.lit (.pointer p)) = some [(.lit (.pointer p))] := rfl
@[go_sem] theorem acells_lit_slice : acells (.lit (.slice p m1 m2)) = some [(.lit (.slice p m1 m2))] := rfl
@[go_sem] theorem acells_lit_map : acells (.lit (.map p2)) = some [(.lit (.map p2))] := rfl
@[go_sem] theorem acells_lit_nilFunc : acells (.lit (.nilFunc)) = some [(.lit (.nilFunc))] := rfl
@[go_sem] theorem acells_lit_nilIface : acells (.lit (.nilIface)) = some [(.lit (.nilIface))] := rfl
@[go_sem] theorem lenForm_str : AVal.lenForm (.str l) = some .other := rfl
@[go_sem] theorem lenForm_slice : AVal.lenForm (.slice a e i n c) = some .slice := rfl
@[go_sem] theorem lenForm_fslice : AVal.lenForm (.fslice es) = some .slice := rfl
@[go_sem] theorem lenForm_gs : AVal.lenForm (.gs a e es) = some .slice := rfl
@[go_sem] theorem lenForm_eslice : AVal.lenForm (.eslice) = some .slice := rfl
@[go_sem] theorem lenForm_map : AVal.lenForm (.map a) = some .map := rfl
@[go_sem] theorem lenForm_fmap : AVal.lenForm (.fmap ms) = some .map := rfl
@[go_sem] theorem lenForm_lit_slice : AVal.lenForm (.lit (.slice p m1 m2)) = some .slice := rfl
@[go_sem] theorem lenForm_lit_map : AVal.lenForm (.lit (.map p2)) = some .map := rfl
@[go_sem] theorem acells_agg : acells (.agg cs) = if cs.all AVal.cell1 then some cs else none := rfl
@[go_sem] theorem all_nil {q : AVal → Bool} : List.all [] q = true := rfl
@[go_sem] theorem all_cons {q : AVal → Bool} : List.all (v :: cs) q = (q v && List.all cs q) := rfl
@[go_sem] theorem isNil_ptr : AVal.isNil (.ptr a i o) = some false := rfl
@[go_sem] theorem isNil_fptr : AVal.isNil (.fptr cs o) = some false := rfl
@[go_sem] theorem isNil_slice : AVal.isNil (.slice a e i n c) = some false := rfl
@[go_sem] theorem isNil_func : AVal.isNil (.func fn f1 f2) = some false := rfl
@[go_sem] theorem isNil_iface : AVal.isNil (.iface ty v) = some false := rfl
@[go_sem] theorem isNil_map : AVal.isNil (.map a) = some false := rfl
@[go_sem] theorem isNil_fmap : AVal.isNil (.fmap ms) = some false := rfl
@[go_sem] theorem isNil_iter : AVal.isNil (.iter a) = some false := rfl
@[go_sem] theorem isNil_lit_nilFunc : AVal.isNil (.lit (.nilFunc)) = some true := rfl
@[go_sem] theorem isNil_lit_nilIface : AVal.isNil (.lit (.nilIface)) = some true := rfl
@[go_sem] theorem isNil_pn : AVal.isNil (.lit (.pointer none)) = some true := rfl
@[go_sem] theorem isNil_sn : AVal.isNil (.lit (.slice none m1 m2)) = some true := rfl
@[go_sem] theorem isNil_mn : AVal.isNil (.lit (.map none)) = some true := rfl
@[go_sem] theorem isNil_fs {e1 : List AVal} : AVal.isNil (.fslice (e1 :: es)) = some false := rfl
@[go_sem] theorem isNil_gs {e1 : List AVal} : AVal.isNil (.gs a e (e1 :: es)) = some false := rfl
@[go_sem] theorem fits_ptr_ptr : AVal.fits .ptr (.ptr a i o) = true := rfl
@[go_sem] theorem fits_ptr_fptr : AVal.fits .ptr (.fptr cs o) = true := rfl
@[go_sem] theorem fits_ptr_iter : AVal.fits .ptr (.iter a) = true := rfl
@[go_sem] theorem fits_ptr_lit_pointer : AVal.fits .ptr (.lit (.pointer p)) = true := rfl
@[go_sem] theorem fits_slice_slice : AVal.fits .slice (.slice a e i n c) = true := rfl
@[go_sem] theorem fits_slice_lit_slice : AVal.fits .slice (.lit (.slice p m1 m2)) = true := rfl
@[go_sem] theorem fits_map_map : AVal.fits .map (.map a) = true := rfl
@[go_sem] theorem fits_map_fmap : AVal.fits .map (.fmap ms) = true := rfl
@[go_sem] theorem fits_map_lit_map : AVal.fits .map (.lit (.map p2)) = true := rfl
@[go_sem] theorem fits_func_func : AVal.fits .func (.func fn f1 f2) = true := rfl
@[go_sem] theorem fits_func_lit_nilFunc : AVal.fits .func (.lit (.nilFunc)) = true := rfl
@[go_sem] theorem fits_iface_iface : AVal.fits .iface (.iface ty v) = true := rfl
@[go_sem] theorem fits_iface_lit_nilIface : AVal.fits .iface (.lit (.nilIface)) = true := rfl
@[go_sem] theorem fits_slice_fs {e1 : List AVal} : AVal.fits .slice (.fslice (e1 :: es)) = true := rfl
@[go_sem] theorem fits_slice_gs {e1 : List AVal} : AVal.fits .slice (.gs a e (e1 :: es)) = true := rfl
end vals
section rules
variable {P : Program} {n0 n n' m off i j a e g len esz lo' : Nat} {md : Option Nat} {Q : Exit → ASt → Prop} {s : ASt} {t : ATab} {h : AHeap} {dd : List ADef} {os : List XOper} {d : Option Tmp} {A B : Prop} {b agg : Bool}
  {K : AVal → AHeap → Prop} {KV : AVal → Prop} {KT : ATab → AHeap → Prop} {KH : AHeap → Prop} {KN : Nat → Prop} {KL : List AVal → Prop} {KE : List (List AVal) → Prop} {x y v p : AVal} {cs vs l0 : List AVal} {es : List (List AVal)} {k k2 : IntKind} {z z2 : Int} {l l2 : List UInt8} {c : Option Nat} {q : EqK}
@[go_sem] theorem put_some {d : Tmp} : t.put (some d) v = t.set d v := rfl
@[go_sem] theorem put_none : t.put none v = t := rfl
@[go_sem] theorem get_set' : ATab.get (t.set j v) i = if j = i then v else t.get i := ATab.get_set
@[go_sem] theorem get_nil : ATab.get .nil i = .junk := rfl
@[go_sem] theorem ev_t : ATab.ev t (.t i) = t.get i := rfl
@[go_sem] theorem ev_v : ATab.ev t (.v x) = x := rfl
@[go_sem] theorem mkTab_cons : mkTab i (v :: vs) = (mkTab (i + 1) vs).set i v := rfl
@[go_sem] theorem mkTab_nil : mkTab i [] = .nil := rfl
@[go_sem] theorem vint_eq : vint z = .lit (.int .i64 z) := rfl
@[go_sem] theorem vbool_eq : vbool b = .lit (.bool b) := rfl
@[go_sem] theorem mkv_t : mkv true n l0 = .agg (l0.take n) := rfl
@[go_sem] theorem mkv_f : mkv false n (v :: l0) = v := rfl
@[go_sem] theorem ZW_skip {u} : ZW P n0 md .skip Q s u = Q .normal s := rfl
@[go_sem] theorem ZW_ret {u} : ZW P n0 md .ret Q s u = Q .ret s := rfl
@[go_sem] theorem ZW_exit {u} : ZW P n0 md (.exit i) Q s u = Q (.exit i) s := rfl
@[go_sem] theorem ZW_seq {x y : XCode} {u} : ZW P n0 md (.seq x y) Q s u = ZW P n0 md x (Then (fun s => ZW P n0 md y Q s .mk) Q) s .mk := rfl
@[go_sem] theorem ZW_block {x : XCode} {u} : ZW P n0 md (.block i x) Q s u = ZW P n0 md x (InBlock i Q) s .mk := rfl
@[go_sem] theorem ZW_region {u} : ZW P n0 md (.region os) Q ⟨n, t, dd, h⟩ u = ZOps P os t h (fun t h => Q .normal ⟨n, t, dd, h⟩) .mk := rfl
@[go_sem] theorem ZW_cond {c : AOpd} {x y : XCode} {u} : ZW P n0 md (.cond c x y) Q ⟨n, t, dd, h⟩ u = ZPick (t.ev c) (ZW P n0 md x Q ⟨n, t, dd, h⟩ .mk) (ZW P n0 md y Q ⟨n, t, dd, h⟩ .mk) .mk := rfl
@[go_sem ↓] theorem Then_normal {A : ASt → Prop} : Then A Q .normal s = A s := rfl
@[go_sem ↓] theorem Then_ret {A : ASt → Prop} : Then A Q .ret s = Q .ret s := rfl
@[go_sem ↓] theorem Then_exit {A : ASt → Prop} : Then A Q (.exit i) s = Q (.exit i) s := rfl
@[go_sem ↓] theorem InBlock_normal : InBlock i Q .normal s = Q .normal s := rfl
@[go_sem ↓] theorem InBlock_ret : InBlock i Q .ret s = Q .ret s := rfl
@[go_sem ↓] theorem InBlock_exit : InBlock i Q (.exit j) s = if j = i then Q .normal s else Q (.exit j) s := rfl
@[go_sem ↓] theorem XFPost_ret {rs : List XRes} {h0 : AHeap} {R : AVal → AHeap → Prop} : XFPost rs h0 R .ret ⟨n, t, dd, h⟩ = ZLeave dd h (fun h1 => ZResV rs t h1 (fun v => FEnd h0 R v h1) .mk) .mk := rfl
@[go_sem ↓] theorem XFPost_normal {rs : List XRes} {h0 : AHeap} {R : AVal → AHeap → Prop} : XFPost rs h0 R .normal ⟨n, t, dd, h⟩ = ZLeave dd h (fun h1 => ZResV rs t h1 (fun v => FEnd h0 R v h1) .mk) .mk := rfl
@[go_sem] theorem ZGuard_tt {u} : ZGuard (.lit (.bool true)) true A B u = A := by simp [ZGuard, AGuard]
@[go_sem] theorem ZGuard_ff {u} : ZGuard (.lit (.bool false)) false A B u = A := by simp [ZGuard, AGuard]
@[go_sem] theorem ZGuard_tf {u} : ZGuard (.lit (.bool true)) false A B u = B := by simp [ZGuard, AGuard]
@[go_sem] theorem ZGuard_ft {u} : ZGuard (.lit (.bool false)) true A B u = B := by simp [ZGuard, AGuard]
@[go_sem] theorem ZPick_t {u} : ZPick (.lit (.bool true)) A B u = A := by simp [ZPick]
@[go_sem] theorem ZPick_f {u} : ZPick (.lit (.bool false)) A B u = B := by simp [ZPick]
@[go_sem] theorem ZOps_nil {u} : ZOps P [] t h KT u = KT t h := rfl
@[go_sem] theorem ZOps_cons {op : XOp} {u} : ZOps P (⟨d, op, none⟩ :: os) t h KT u = ZOp P op t h (fun v h' => ZOps P os (t.put d v) h' KT .mk) .mk := rfl
@[go_sem] theorem ZOps_guard {op : XOp} {u} : ZOps P (⟨d, op, some (g, b)⟩ :: os) t h KT u = ZGuard (t.get g) b (ZOps P (⟨d, op, none⟩ :: os) t h KT .mk) (ZOps P os (t.put d skip) h KT .mk) .mk := rfl
@[go_sem] theorem ZOp_move {x : AOpd} {u} : ZOp P (.move x) t h K u = (K (t.ev x) h) := rfl
@[go_sem] theorem ZOp_load {x : AOpd} {n : Nat} {b : Bool} {u} : ZOp P (.load x n b) t h K u = (ZLoad h (t.ev x) n b (fun v => K v h) .mk) := rfl
@[go_sem] theorem ZOp_store {x v : AOpd} {n : Nat} {u} : ZOp P (.store x v n) t h K u = (ZStore h (t.ev x) (t.ev v) n (fun h' => K .junk h') .mk) := rfl
@[go_sem] theorem ZOp_nilCheck {x : AOpd} {u} : ZOp P (.nilCheck x) t h K u = (ZNilc (t.ev x) (K (t.ev x) h) .mk) := rfl
@[go_sem] theorem ZOp_bin {s : Bool} {q : EqK} {op : BinOp} {x y : AOpd} {u} : ZOp P (.bin s q op x y) t h K u = ((s || (t.ev x).notNilI || (t.ev y).notNilI) = true ∧ ZBin q op (t.ev x) (t.ev y) (fun v => K v h) .mk) := rfl
@[go_sem] theorem ZOp_un {op : UnOp} {x : AOpd} {u} : ZOp P (.un op x) t h K u = (ZUn op (t.ev x) (fun v => K v h) .mk) := rfl
@[go_sem] theorem ZOp_conv {q : ConvK} {x : AOpd} {u} : ZOp P (.conv q x) t h K u = (ZConv q (t.ev x) (fun v => K v h) .mk) := rfl
@[go_sem] theorem ZOp_fieldAddr {x : AOpd} {o : Nat} {u} : ZOp P (.fieldAddr x o) t h K u = (ZField (t.ev x) o (fun v => K v h) .mk) := rfl
@[go_sem] theorem ZOp_field {x : AOpd} {o n : Nat} {b : Bool} {u} : ZOp P (.field x o n b) t h K u = (ZFieldV (t.ev x) o n b (fun v => K v h) .mk) := rfl
@[go_sem] theorem ZOp_indexAddr {x i : AOpd} {e : Nat} {u} : ZOp P (.indexAddr x i e) t h K u = (ZIdx (t.ev x) (t.ev i) e (fun v => K v h) .mk) := rfl
@[go_sem] theorem ZOp_index {x i : AOpd} {u} : ZOp P (.index x i) t h K u = (ZIndexS (t.ev x) (t.ev i) (fun v => K v h) .mk) := rfl
@[go_sem] theorem ZOp_alloc {z : List AVal} {u} : ZOp P (.alloc z) t h K u = (K (.ptr h.length 0 0) (h ++ [some (.rows [z])])) := rfl
@[go_sem] theorem ZOp_box {x : AOpd} {u} : ZOp P (.box x) t h K u = (ZOpt (acells (t.ev x)) (fun cs => K (.ptr h.length 0 0) (h ++ [some (.rows [cs])])) .mk) := rfl
@[go_sem] theorem ZOp_build {z : List AVal} {ps : List (Nat × Nat)} {pt : List (Nat × AOpd)} {u} : ZOp P (.build z ps pt) t h K u = (ZFill ps z (pt.map fun q => (q.1, t.ev q.2)) (fun cs => K (.agg cs) h) .mk) := rfl
@[go_sem] theorem ZOp_buildSlice {z : List AVal} {n : Nat} {pt : List (Nat × AOpd)} {u} : ZOp P (.buildSlice z n pt) t h K u = (n * z.length ≤ 16777216 ∧ ZSet z.length (List.replicate n z) (pt.map fun q => (q.1, t.ev q.2)) (fun es => K (.slice h.length z.length 0 n (some n)) (h ++ [some (.rows es)])) .mk) := rfl
@[go_sem] theorem ZOp_makeSlice {z : List AVal} {x y : AOpd} {u} : ZOp P (.makeSlice z x y) t h K u = (ZMakeS h z (t.ev x) (t.ev y) (fun v h => K v h) .mk) := rfl
@[go_sem] theorem ZOp_iface {ty : TypeId} {x : AOpd} {u} : ZOp P (.iface ty x) t h K u = (K (.iface ty (t.ev x)) h) := rfl
@[go_sem] theorem ZOp_func {fn : Fn} {f c : List AOpd} {u} : ZOp P (.func fn f c) t h K u = (K (.func fn (f.map t.ev) (c.map t.ev)) h) := rfl
@[go_sem] theorem ZOp_extract {x : AOpd} {i : Nat} {u} : ZOp P (.extract x i) t h K u = (ZExt (t.ev x) i (fun v => K v h) .mk) := rfl
@[go_sem] theorem ZOp_slice {s : Bool} {x : AOpd} {lo hi : Option AOpd} {e : Nat} {u} : ZOp P (.slice s x lo hi e) t h K u = ((t.ev x).isStr = s ∧ ZSlice (t.ev x) (lo.map t.ev) (hi.map t.ev) e (fun v => K v h) .mk) := rfl
@[go_sem] theorem ZOp_len {q : EqK} {x : AOpd} {u} : ZOp P (.len q x) t h K u = ((t.ev x).lenForm = some q ∧ ZLen (t.ev x) h (fun v => K v h) .mk) := rfl
@[go_sem] theorem ZOp_append {e : Nat} {s x : AOpd} {u} : ZOp P (.append e s x) t h K u = (ZElems h (t.ev x) e (fun new => ZApp1 h (t.ev s) e new (fun v h => K v h) .mk) .mk) := rfl
@[go_sem] theorem ZOp_call {f : AOpd} {args : List AOpd} {u} : ZOp P (.call f args) t h K u = (ZCallV P (t.ev f) (args.map t.ev) h (fun v h' => h.length ≤ h'.length ∧ K v h') .mk) := rfl
@[go_sem] theorem ZOp_pick {c x y : AOpd} {u} : ZOp P (.pick c x y) t h K u = (ZPick (t.ev c) (K (t.ev x) h) (K (t.ev y) h) .mk) := rfl
@[go_sem] theorem ZOpt_some {α : Type} {a : α} {K : α → Prop} {u} : ZOpt (some a) K u = K a := rfl
@[go_sem] theorem ZRows_rows {u} : ZRows (.rows es) KE u = KE es := rfl
@[go_sem] theorem ZLoad_ptr {u} : ZLoad h (.ptr a i off) n agg KV u = ZOpt (hget h a) (fun o => ZRows o (fun es => ZOpt es[i]? (fun e => (off + n ≤ e.length ∧ KV (mkv agg n (e.drop off)))) .mk) .mk) .mk := by
  apply propext
  show ALoad _ _ _ _ _ ↔ optK _ _
  unfold ALoad optK
  constructor
  · rintro ⟨es, e, h1, h2, h3⟩; rw [h1]; show optK es[i]? _; rw [h2]; exact h3
  · intro hh
    split at hh
    · rename_i o ho
      cases o <;> try exact hh.elim
      rename_i es
      obtain ⟨e, he, hh⟩ := optK_some (show optK es[i]? _ from hh)
      exact ⟨es, e, ho, he, hh⟩
    · exact hh.elim
@[go_sem] theorem ZLoad_fptr {u} : ZLoad h (.fptr cs off) n agg KV u = (off + n ≤ cs.length ∧ KV (mkv agg n (cs.drop off))) := rfl
@[go_sem] theorem ZStore_ptr {u} : ZStore h (.ptr a i off) v n KH u = ZOpt (hget h a) (fun o => ZRows o (fun es => ZOpt es[i]? (fun e => ZOpt (acells v) (fun cs => (cs.length = n ∧ off + n ≤ e.length ∧ KH (hset h a (.rows (es.set i (e.take off ++ (cs ++ e.drop (off + n)))))))) .mk) .mk) .mk) .mk := by
  apply propext
  show AStore _ _ _ _ _ ↔ optK _ _
  unfold AStore optK
  constructor
  · rintro ⟨es, e, cs, h1, h2, h3, h4, h5, h6⟩; rw [h1]; show optK es[i]? _; rw [h2]; show optK (acells v) _; rw [h3]; exact ⟨h4, h5, h6⟩
  · intro hh
    split at hh
    · rename_i o ho
      cases o <;> try exact hh.elim
      rename_i es
      obtain ⟨e, he, hh⟩ := optK_some (show optK es[i]? _ from hh)
      obtain ⟨cs, hc, hh⟩ := optK_some (show optK (acells v) _ from hh)
      exact ⟨es, e, cs, ho, he, hc, hh⟩
    · exact hh.elim
@[go_sem] theorem ZField_ptr {u} : ZField (.ptr a i j) off KV u = KV (.ptr a i (j + off)) := rfl
@[go_sem] theorem ZField_fptr {u} : ZField (.fptr cs j) off KV u = KV (.fptr cs (j + off)) := rfl
@[go_sem] theorem ZFieldV_agg {u} : ZFieldV (.agg cs) off n agg KV u = (off + n ≤ cs.length ∧ KV (mkv agg n (cs.drop off))) := rfl
@[go_sem] theorem ZIdx_slice {u} : ZIdx (.slice a e j len c) (.lit (.int k z)) esz KV u = (e = esz ∧ 0 ≤ z ∧ z < len ∧ KV (.ptr a (j + z.toNat) 0)) := rfl
@[go_sem] theorem ZIdx_fslice {u} : ZIdx (.fslice es) (.lit (.int k z)) esz KV u = (0 ≤ z ∧ ZOpt es[z.toNat]? (fun e => (e.length = esz ∧ KV (.fptr e 0))) .mk) := by
  apply propext
  constructor
  · rintro ⟨e, h1, h2, h3, h4⟩; refine ⟨h1, ?_⟩; rw [h2]; exact ⟨h3, h4⟩
  · rintro ⟨h1, h2⟩
    obtain ⟨e, he, h3⟩ := optK_some (show optK es[z.toNat]? _ from h2)
    exact ⟨e, h1, he, h3⟩
@[go_sem] theorem ZIdx_gs {u} : ZIdx (.gs a e es) (.lit (.int k z)) esz KV u = (0 ≤ z ∧ ZOpt es[z.toNat]? (fun e => (e.length = esz ∧ KV (.fptr e 0))) .mk) := ZIdx_fslice (es := es) (k := k) (u := .mk)
@[go_sem] theorem ZIndexS_str {u} : ZIndexS (.str l) (.lit (.int k z)) KV u = (0 ≤ z ∧ ZOpt l[z.toNat]? (fun c => KV (.lit (.int .u8 c.toNat))) .mk) := by
  apply propext
  constructor
  · rintro ⟨h1, c, h2, h3⟩; refine ⟨h1, ?_⟩; rw [h2]; exact h3
  · rintro ⟨h1, h2⟩
    obtain ⟨e, he, h3⟩ := optK_some (show optK l[z.toNat]? _ from h2)
    exact ⟨h1, e, he, h3⟩
@[go_sem] theorem ZFill_nil {ps : List (Nat × Nat)} {u} : ZFill ps cs [] KL u = KL cs := rfl
@[go_sem] theorem ZFill_cons {ps : List (Nat × Nat)} {r : List (Nat × AVal)} {u} :
    ZFill ps cs ((i, v) :: r) KL u = ZOpt ps[i]? (fun p => ZOpt (acells v) (fun c => (c.length = p.2 ∧ p.1 + p.2 ≤ cs.length ∧ ZFill ps (cs.take p.1 ++ (c ++ cs.drop (p.1 + p.2))) r KL .mk)) .mk) .mk := by
  apply propext
  constructor
  · rintro ⟨p, c, h1, h2, h3⟩; rw [h1]; show optK (acells v) _; rw [h2]; exact h3
  · intro hh
    obtain ⟨p, hp, hh⟩ := optK_some (show optK ps[i]? _ from hh)
    obtain ⟨c, hc, hh⟩ := optK_some (show optK (acells v) _ from hh)
    exact ⟨p, c, hp, hc, hh⟩
@[go_sem] theorem ZSet_nil {u} : ZSet n es [] KE u = KE es := rfl
@[go_sem] theorem ZSet_cons {r : List (Nat × AVal)} {u} : ZSet n es ((i, v) :: r) KE u = ZOpt (acells v) (fun c => (c.length = n ∧ i < es.length ∧ ZSet n (es.set i c) r KE .mk)) .mk := by
  apply propext
  constructor
  · rintro ⟨c, h1, h2⟩; rw [h1]; exact h2
  · intro hh
    obtain ⟨c, hc, hh⟩ := optK_some (show optK (acells v) _ from hh)
    exact ⟨c, hc, hh⟩
@[go_sem] theorem ZMakeS_eq {u} : ZMakeS h vs (.lit (.int k z)) (.lit (.int k2 z2)) K u = (0 ≤ z ∧ z ≤ z2 ∧ z2 ≤ 4294967296 ∧ K (.slice h.length vs.length 0 z.toNat (some z2.toNat)) (h ++ [some (.rows (List.replicate z2.toNat vs))])) := rfl
@[go_sem] theorem ZExt_tuple {u} : ZExt (.tuple vs) i KV u = ZOpt vs[i]? (fun v => KV v) .mk := rfl
@[go_sem] theorem ZUn_not {u} : ZUn .not (.lit (.bool b)) KV u = KV (.lit (.bool (!b))) := rfl
@[go_sem] theorem ZUn_neg {u} : ZUn .neg (.lit (.int k z)) KV u = KV (.lit (.int k (k.wrap (0 - z)))) := rfl
@[go_sem] theorem ZUn_xor {u} : ZUn .xor (.lit (.int k z)) KV u = KV (.lit (.int k (bits .xor k (if k.signed then -1 else k.max) z))) := rfl
@[go_sem] theorem ZConv_int {u} : ZConv (.int k) (.lit (.int k2 z)) KV u = KV (.lit (.int k (k.wrap z))) := rfl
@[go_sem] theorem ZConv_same {u} : ZConv .same (.str l) KV u = KV (.str l) := rfl
@[go_sem] theorem ZBnd_none {u} : ZBnd none n KN u = KN n := rfl
@[go_sem] theorem ZBnd_some {u} : ZBnd (some (.lit (.int k z))) n KN u = (0 ≤ z ∧ KN z.toNat) := rfl
@[go_sem] theorem ZSlice_str {lo hi : Option AVal} {u} : ZSlice (.str l) lo hi esz KV u = ZBnd hi l.length (fun h => ZBnd lo 0 (fun a => a ≤ h ∧ h ≤ l.length ∧ KV (.str ((l.take h).drop a))) .mk) .mk := rfl
@[go_sem] theorem ZSlice_slice {lo hi : Option AVal} {u} : ZSlice (.slice a e i n c) lo hi esz KV u = ZBnd hi n (fun h => ZBnd lo 0 (fun b => e = esz ∧ b ≤ h ∧ h ≤ n ∧ (b < c.getD n ∨ b = h) ∧ KV (aslcV a e i n c h b)) .mk) .mk := rfl
@[go_sem] theorem ZSlice_fslice {lo hi : Option AVal} {u} : ZSlice (.fslice es) lo hi esz KV u = ZBnd hi es.length (fun h => ZBnd lo 0 (fun b => (∀ e ∈ es, e.length = esz) ∧ b ≤ h ∧ h ≤ es.length ∧ KV (.fslice ((es.take h).drop b))) .mk) .mk := rfl
@[go_sem] theorem ZSlice_gs {lo hi : Option AVal} {u} : ZSlice (.gs a e es) lo hi esz KV u = ZBnd hi es.length (fun h => ZBnd lo 0 (fun b => (∀ e ∈ es, e.length = esz) ∧ b ≤ h ∧ h ≤ es.length ∧ KV (.fslice ((es.take h).drop b))) .mk) .mk := rfl
@[go_sem] theorem ZSlice_nil {lo hi : Option AVal} {u} : ZSlice (.lit (.slice none 0 0)) lo hi esz KV u = ZBnd hi 0 (fun h => ZBnd lo 0 (fun b => b = 0 ∧ h = 0 ∧ KV (.lit (.slice none 0 0))) .mk) .mk := rfl
@[go_sem] theorem ZLen_str {u} : ZLen (.str l) h KV u = KV (.lit (.int .i64 l.length)) := rfl
@[go_sem] theorem ZLen_slice {u} : ZLen (.slice a e i n c) h KV u = KV (.lit (.int .i64 n)) := rfl
@[go_sem] theorem ZLen_fslice {u} : ZLen (.fslice es) h KV u = KV (.lit (.int .i64 es.length)) := rfl
@[go_sem] theorem ZLen_gs {u} : ZLen (.gs a e es) h KV u = KV (.lit (.int .i64 es.length)) := rfl
@[go_sem] theorem ZLen_eslice {u} : ZLen .eslice h KV u = KV (.lit (.int .i64 0)) := rfl
@[go_sem] theorem ZLen_ns {pp : Option Addr} {u} : ZLen (.lit (.slice pp 0 m)) h KV u = KV (.lit (.int .i64 0)) := rfl
@[go_sem] theorem ZLen_nm {u} : ZLen (.lit (.map none)) h KV u = KV (.lit (.int .i64 0)) := rfl
@[go_sem] theorem ZElems_fslice {u} : ZElems h (.fslice es) esz KE u = ((∀ e ∈ es, e.length = esz) ∧ KE es) := rfl
@[go_sem] theorem ZElems_gs {u} : ZElems h (.gs a e es) esz KE u = ((∀ e ∈ es, e.length = esz) ∧ KE es) := rfl
@[go_sem] theorem ZElems_str {u} : ZElems h (.str l) esz KE u = (esz = 1 ∧ KE (l.map fun c => [.lit (.int .u8 c.toNat)])) := rfl
@[go_sem] theorem ZElems_nil {u} : ZElems h (.lit (.slice none 0 0)) esz KE u = KE [] := rfl
@[go_sem] theorem ZElems_eslice {u} : ZElems h .eslice esz KE u = KE [] := rfl
@[go_sem] theorem ZElems_slice {u} : ZElems h (.slice a e i n c) esz KE u = ZOpt (hget h a) (fun o => ZRows o (fun es => (e = esz ∧ i + n ≤ es.length ∧ KE ((es.drop i).take n))) .mk) .mk := by
  apply propext
  show AElems _ _ _ _ ↔ optK _ _
  unfold optK
  constructor
  · rintro ⟨es, h1, h2⟩; rw [h1]; exact h2
  · intro hh
    split at hh
    · rename_i o ho
      cases o <;> try exact hh.elim
      exact ⟨_, ho, hh⟩
    · exact hh.elim
variable {new : List (List AVal)}
@[go_sem] theorem ZApp1_nil {u} : ZApp1 h (.lit (.slice none 0 0)) esz new K u = (new.length ≤ 4294967296 ∧ (new = [] → K (.lit (.slice none 0 0)) h) ∧ (new ≠ [] → K (.slice h.length esz 0 new.length none) (h ++ [some (.rows new)]))) := rfl
@[go_sem] theorem ZApp1_slice {u} : ZApp1 h (.slice a e i n none) esz new K u = ZOpt (hget h a) (fun o => ZRows o (fun es => (e = esz ∧ i + n ≤ es.length ∧ n + new.length ≤ 4294967296 ∧ K (.slice h.length esz 0 (n + new.length) none) (h.set a none ++ [some (.rows ((es.drop i).take n ++ new))]))) .mk) .mk := by
  apply propext
  show AApp1 _ _ _ _ _ ↔ optK _ _
  unfold optK
  constructor
  · rintro ⟨es, h1, h2⟩; rw [h1]; exact h2
  · intro hh
    split at hh
    · rename_i o ho
      cases o <;> try exact hh.elim
      exact ⟨_, ho, hh⟩
    · exact hh.elim
@[go_sem] theorem ZApp1_cap {m : Nat} {u} : ZApp1 h (.slice a e i n (some m)) esz new K u = ZOpt (hget h a) (fun o => ZRows o (fun es => (e = esz ∧ i + m ≤ es.length ∧ n ≤ m ∧ n + new.length ≤ 4294967296 ∧
      (n + new.length ≤ m → K (.slice a esz i (n + new.length) (some m)) (hset h a (.rows (es.take (i + n) ++ (new ++ es.drop (i + n + new.length)))))) ∧
      (m < n + new.length → K (.slice h.length esz 0 (n + new.length) none) (h ++ [some (.rows ((es.drop i).take n ++ new))])))) .mk) .mk := by
  apply propext
  show AApp1 _ _ _ _ _ ↔ optK _ _
  unfold optK
  constructor
  · rintro ⟨es, h1, h2⟩; rw [h1]; exact h2
  · intro hh
    split at hh
    · rename_i o ho
      cases o <;> try exact hh.elim
      exact ⟨_, ho, hh⟩
    · exact hh.elim
@[go_sem] theorem ZApp1_gs {u} : ZApp1 h (.gs a e es) esz new K u = (e = esz ∧ hget h a = some (.tok esz es.length) ∧ es.length + new.length ≤ 4294967296 ∧ K (.gs a esz (es ++ new)) (hset h a (.tok esz (es.length + new.length)))) := rfl
theorem zcallV_func {f : FuncId} {f1 f2 args : List AVal} {u} (hok : callOk P f = true) (hc : ZCall P f (f1 ++ (args ++ f2)) h K .mk) : ZCallV P (.func (.func f) f1 f2) args h K u := .inl ⟨hok, hc⟩
theorem zcallV_ext {f : FuncId} {f1 f2 args : List AVal} {u} {q : ExtK} (hq : externK P f = some q) (hc : AExtern q (f1 ++ (args ++ f2)) fun v => K v h) : ZCallV P (.func (.func f) f1 f2) args h K u := .inr ⟨q, hq, hc⟩
@[go_sem] theorem ZCallV_yield {args : List AVal} {u} : ZCallV P (.yieldf a) args h K u = ZYield P a args h K .mk := rfl
@[go_sem] theorem ZResV0 {u} : ZResV [] t h KV u = KV (.tuple []) := rfl
@[go_sem] theorem ZResV1 {u} : ZResV [.tmp i] t h KV u = KV (t.get i) := rfl
@[go_sem] theorem ZResVc {u} : ZResV [.cell i n agg] t h KV u = ZLoad h (t.get i) n agg KV .mk := rfl
@[go_sem] theorem ZResV2 {u} : ZResV [.tmp i, .tmp j] t h KV u = KV (.tuple [t.get i, t.get j]) := rfl
@[go_sem] theorem ZResVct {u} : ZResV [.cell i n agg, .tmp j] t h KV u = ZLoad h (t.get i) n agg (fun v => KV (.tuple [v, t.get j])) .mk := rfl
@[go_sem] theorem ZResVtc {u} : ZResV [.tmp j, .cell i n agg] t h KV u = ZLoad h (t.get i) n agg (fun v => KV (.tuple [t.get j, v])) .mk := rfl
@[go_sem] theorem ZResV3 {u} : ZResV [.tmp i, .tmp j, .tmp m] t h KV u = KV (.tuple [t.get i, t.get j, t.get m]) := rfl
@[go_sem] theorem ZLeave_nil {u} : ZLeave [] h KH u = KH h := rfl
@[go_sem] theorem ZLeave_mark {u} : ZLeave (.mark a :: dd) h KH u = (hget h a = some .defd ∧ ZLeave dd (h.set a none) KH .mk) := rfl
@[go_sem] theorem hget_new0 {hl : AHeap} : hget (h ++ hl) h.length = (hl[0]?).join := by have := @hget_append_new h hl 0; simpa using this
attribute [go_sem] hget_append_new
@[go_sem] theorem hset_new {hl : AHeap} {o : AObj} : hset (h ++ hl) (h.length + i) o = h ++ hl.set i (some o) := by
  unfold hset; rw [List.set_append_right _ _ (by omega)]; congr 2; omega
@[go_sem] theorem hset_new0 {hl : AHeap} {o : AObj} : hset (h ++ hl) h.length o = h ++ hl.set 0 (some o) := by
  unfold hset; rw [List.set_append_right _ _ (Nat.le_refl _)]; simp
@[go_sem] theorem ZBin_i_add {u} : ZBin q .add (.lit (.int k z)) (.lit (.int k2 z2)) KV u = (k = k2 ∧ KV (.lit (.int k (k.wrap (z + z2))))) := rfl
@[go_sem] theorem ZBin_i_sub {u} : ZBin q .sub (.lit (.int k z)) (.lit (.int k2 z2)) KV u = (k = k2 ∧ KV (.lit (.int k (k.wrap (z - z2))))) := rfl
@[go_sem] theorem ZBin_i_mul {u} : ZBin q .mul (.lit (.int k z)) (.lit (.int k2 z2)) KV u = (k = k2 ∧ KV (.lit (.int k (k.wrap (z * z2))))) := rfl
@[go_sem] theorem ZBin_i_quo {u} : ZBin q .quo (.lit (.int k z)) (.lit (.int k2 z2)) KV u = (k = k2 ∧ z2 ≠ 0 ∧ KV (.lit (.int k (k.wrap (z.tdiv z2))))) := rfl
@[go_sem] theorem ZBin_i_rem {u} : ZBin q .rem (.lit (.int k z)) (.lit (.int k2 z2)) KV u = (k = k2 ∧ z2 ≠ 0 ∧ KV (.lit (.int k (z.tmod z2)))) := rfl
@[go_sem] theorem ZBin_i_and {u} : ZBin q .and (.lit (.int k z)) (.lit (.int k2 z2)) KV u = (k = k2 ∧ KV (.lit (.int k (bits .and k z z2)))) := rfl
@[go_sem] theorem ZBin_i_or {u} : ZBin q .or (.lit (.int k z)) (.lit (.int k2 z2)) KV u = (k = k2 ∧ KV (.lit (.int k (bits .or k z z2)))) := rfl
@[go_sem] theorem ZBin_i_xor {u} : ZBin q .xor (.lit (.int k z)) (.lit (.int k2 z2)) KV u = (k = k2 ∧ KV (.lit (.int k (bits .xor k z z2)))) := rfl
@[go_sem] theorem ZBin_i_andNot {u} : ZBin q .andNot (.lit (.int k z)) (.lit (.int k2 z2)) KV u = (k = k2 ∧ KV (.lit (.int k (bits .andNot k z z2)))) := rfl
@[go_sem] theorem ZBin_i_eql {u} : ZBin q .eql (.lit (.int k z)) (.lit (.int k2 z2)) KV u = (k = k2 ∧ KV (.lit (.bool (decide (z = z2))))) := rfl
@[go_sem] theorem ZBin_i_neq {u} : ZBin q .neq (.lit (.int k z)) (.lit (.int k2 z2)) KV u = (k = k2 ∧ KV (.lit (.bool (!decide (z = z2))))) := rfl
@[go_sem] theorem ZBin_i_lss {u} : ZBin q .lss (.lit (.int k z)) (.lit (.int k2 z2)) KV u = (k = k2 ∧ KV (.lit (.bool (decide (z < z2))))) := rfl
@[go_sem] theorem ZBin_i_leq {u} : ZBin q .leq (.lit (.int k z)) (.lit (.int k2 z2)) KV u = (k = k2 ∧ KV (.lit (.bool (decide (z ≤ z2))))) := rfl
@[go_sem] theorem ZBin_i_gtr {u} : ZBin q .gtr (.lit (.int k z)) (.lit (.int k2 z2)) KV u = (k = k2 ∧ KV (.lit (.bool (decide (z2 < z))))) := rfl
@[go_sem] theorem ZBin_i_geq {u} : ZBin q .geq (.lit (.int k z)) (.lit (.int k2 z2)) KV u = (k = k2 ∧ KV (.lit (.bool (decide (z2 ≤ z))))) := rfl
@[go_sem] theorem ZBin_i_shl {u} : ZBin q .shl (.lit (.int k z)) (.lit (.int k2 z2)) KV u = (0 ≤ z2 ∧ KV (.lit (.int k (k.wrap (z * 2 ^ (min z2.toNat k.bits)))))) := rfl
@[go_sem] theorem ZBin_i_shr {u} : ZBin q .shr (.lit (.int k z)) (.lit (.int k2 z2)) KV u = (0 ≤ z2 ∧ KV (.lit (.int k (z.fdiv (2 ^ (min z2.toNat k.bits)))))) := rfl
@[go_sem] theorem ZBin_s_add {u} : ZBin q .add (.str l) (.str l2) KV u = (l.length + l2.length ≤ 9223372036854775807 ∧ KV (.str (l ++ l2))) := rfl
@[go_sem] theorem ZBin_s_eql {u} : ZBin q .eql (.str l) (.str l2) KV u = (KV (.lit (.bool (decide (l = l2))))) := rfl
@[go_sem] theorem ZBin_s_neq {u} : ZBin q .neq (.str l) (.str l2) KV u = (KV (.lit (.bool (!decide (l = l2))))) := rfl
@[go_sem] theorem ZBin_s_lss {u} : ZBin q .lss (.str l) (.str l2) KV u = (KV (.lit (.bool (Op.bytesLess l l2)))) := rfl
@[go_sem] theorem ZBin_s_leq {u} : ZBin q .leq (.str l) (.str l2) KV u = (KV (.lit (.bool (Op.bytesLess l l2 || decide (l = l2))))) := rfl
@[go_sem] theorem ZBin_b_eql {b2 : Bool} {u} : ZBin .bool .eql (.lit (.bool b)) (.lit (.bool b2)) KV u = KV (.lit (.bool (b == b2))) := rfl
@[go_sem] theorem ZBin_b_neq {b2 : Bool} {u} : ZBin .bool .neq (.lit (.bool b)) (.lit (.bool b2)) KV u = KV (.lit (.bool (!(b == b2)))) := rfl
attribute [go_sem] if_true if_false true_and and_true false_and and_false Bool.true_or Bool.or_true Bool.false_or Bool.or_false Bool.true_and Bool.and_true Bool.false_and Bool.and_false Bool.not_true Bool.not_false
  List.length_cons List.length_nil List.map_cons List.map_nil List.drop_zero List.drop_succ_cons List.drop_nil List.take_zero List.take_succ_cons List.getElem?_cons_zero List.getElem?_cons_succ List.nil_append List.cons_append List.append_nil
  List.append_assoc List.length_append List.set_cons_zero List.set_cons_succ Option.join_some Option.map_some Option.map_none Option.getD_some Option.getD_none Nat.add_zero Nat.zero_add Nat.sub_zero List.replicate_succ List.replicate_zero
@[go_sem] theorem false_imp (p : Prop) : (False → p) = True := by simp
@[go_sem] theorem nat_nonneg (n : Nat) : (0 ≤ (n : Int)) = True := by simp
@[go_sem] theorem int_le_self (n : Int) : (n ≤ n) = True := by simp
attribute [go_sem] Int.toNat_natCast Nat.add_assoc
@[go_sem] theorem eq_self_iff {α : Type} (a : α) : (a = a) = True := eq_self a
@[go_sem] theorem length_snoc {α : Type} {l : List α} {a : α} : (l ++ [a]).length = l.length + 1 := by simp
@[go_sem] theorem le_self (a : Nat) : (a ≤ a) = True := by simp
@[go_sem] theorem le_add_self (a b : Nat) : (a ≤ a + b) = True := by simp
@[go_sem] theorem one_le_succ (a : Nat) : (1 ≤ a + 1) = True := by simp
/-! ### More operations -/
def ZIdxA (x i : AVal) (len esz : Nat) (K : AVal → Prop) (_ : Sh K) : Prop := AIdxA x i len esz K
def ZMapPut (h : AHeap) (q : Bool) (m k v : AVal) (K : AHeap → Prop) (_ : Sh K) : Prop := AMapPut h q m k v K
def ZMapGet (h : AHeap) (q : Bool) (z x k : AVal) (ok : Bool) (K : AVal → Prop) (_ : Sh K) : Prop := AMapGet h q z x k ok K
def ZMinMax (mx : Bool) (l : List AVal) (K : AVal → Prop) (_ : Sh K) : Prop := AMinMax mx l K
def ZCopy (h : AHeap) (x y : AVal) (e : Nat) (K : AVal → AHeap → Prop) (_ : Sh K) : Prop := ACopy h x y e K
@[go_sem] theorem ZOp_idxA {x i : AOpd} {len e : Nat} {u} : ZOp P (.idxA x i len e) t h K u = ZIdxA (t.ev x) (t.ev i) len e (fun v => K v h) .mk := rfl
@[go_sem] theorem ZOp_makeMap {u} : ZOp P .makeMap t h K u = K (.map h.length) (h ++ [some (.map [])]) := rfl
@[go_sem] theorem ZOp_mapPut {q : Bool} {m k v : AOpd} {u} : ZOp P (.mapPut q m k v) t h K u = ZMapPut h q (t.ev m) (t.ev k) (t.ev v) (fun h' => K .junk h') .mk := rfl
@[go_sem] theorem ZOp_mapGet {q : Bool} {z : AVal} {x k : AOpd} {b : Bool} {u} : ZOp P (.mapGet q z x k b) t h K u = ZMapGet h q z (t.ev x) (t.ev k) b (fun v => K v h) .mk := rfl
@[go_sem] theorem ZOp_minMax {b : Bool} {l : List AOpd} {u} : ZOp P (.minMax b l) t h K u = ZMinMax b (l.map t.ev) (fun v => K v h) .mk := rfl
@[go_sem] theorem ZOp_copy {e : Nat} {x y : AOpd} {u} : ZOp P (.copy e x y) t h K u = ZCopy h (t.ev x) (t.ev y) e K .mk := rfl
@[go_sem] theorem ZIdxA_ptr {u} : ZIdxA (.ptr a j off) (.lit (.int k z)) len esz KV u = (0 ≤ z ∧ z < len ∧ KV (.ptr a j (off + z.toNat * esz))) := rfl
@[go_sem] theorem ZIdxA_fptr {u} : ZIdxA (.fptr cs off) (.lit (.int k z)) len esz KV u = (0 ≤ z ∧ z < len ∧ KV (.fptr cs (off + z.toNat * esz))) := rfl
@[go_sem] theorem ZMinMax1 {b : Bool} {u} : ZMinMax b [.lit (.int k z), .lit (.int k2 z2)] KV u = KV (.lit (.int k (if b then (if z < z2 then z2 else z) else (if z2 < z then z2 else z)))) := rfl
@[go_sem] theorem ZNilc_ptr {A : Prop} {u} : ZNilc (.ptr a i j) A u = A := rfl
@[go_sem] theorem ZNilc_fptr {A : Prop} {u} : ZNilc (.fptr cs j) A u = A := rfl
@[go_sem] theorem ZNilc_iter {A : Prop} {u} : ZNilc (.iter a) A u = A := rfl
@[go_sem] theorem ZNilc_slice {A : Prop} {u} : ZNilc (.slice a e i n c) A u = A := rfl
@[go_sem] theorem ZNilc_map {A : Prop} {u} : ZNilc (.map a) A u = A := rfl
@[go_sem] theorem ZNilc_func {A : Prop} {f : FuncId} {f1 f2 : List AVal} {u} : ZNilc (.func (.func f) f1 f2) A u = A := rfl
@[go_sem] theorem ZNilc_yieldf {A : Prop} {u} : ZNilc (.yieldf a) A u = A := rfl
@[go_sem] theorem ZNilc_iface {A : Prop} {ty : TypeId} {u} : ZNilc (.iface ty v) A u = A := rfl
@[go_sem] theorem ZGuard_skip {c : Array Value} {u} : ZGuard (.lit (.tuple c)) b A B u = B := by cases b <;> rfl
@[go_sem] theorem skip_eq : skip = .lit (.tuple #[]) := rfl
@[go_sem] theorem aslcV_t (hb : j < c.getD n) : aslcV a e i n c m j = .slice a e (i + j) (m - j) (c.map fun c => c - j) := by
  unfold aslcV; rw [Nat.ble_eq_true_of_le hb]
/-! ### Against nothing -/
theorem zbin_nil {q : EqK} {x : AVal} {r : Value} (hr : AVal.isNil (.lit r) = some true) (hf : AVal.fits q (.lit r) = true) (hq : q ≠ .bool ∧ q ≠ .other) (hi : ∀ k z, r ≠ .int k z) (hb : ∀ b, r ≠ .bool b) {u} :
    ZBin q .eql x (.lit r) KV u = (x.fits q = true ∧ ZOpt x.isNil (fun a => KV (.lit (.bool a))) .mk) ∧ ZBin q .neq x (.lit r) KV u = (x.fits q = true ∧ ZOpt x.isNil (fun a => KV (.lit (.bool (!a)))) .mk) := by
  have key : ∀ K : Bool → Prop, AEq q x (.lit r) K = (x.fits q = true ∧ optK x.isNil K) := by
    intro K
    apply propext
    unfold AEq
    split
    · exact absurd rfl hq.1
    · exact absurd rfl hq.2
    · exact absurd rfl hq.1
    · constructor
      · rintro ⟨h1, h2, a, b, h3, h4, h5, h6⟩
        rw [hr] at h4; cases h4
        rw [h3]
        refine ⟨h1, ?_⟩
        cases a <;> exact h6
      · rintro ⟨h1, h2⟩
        obtain ⟨a, ha, h2⟩ := optK_some h2
        refine ⟨h1, hf, a, true, ha, hr, .inr rfl, ?_⟩
        cases a <;> exact h2
  constructor
  · have : ZBin q .eql x (.lit r) KV u = AEq q x (.lit r) fun b => KV (.lit (.bool b)) := by
      unfold ZBin ABin
      split
      · rename_i e; cases e; exact absurd rfl (hi _ _)
      · rename_i e; cases e
      · rfl
    rw [this, key]; rfl
  · have : ZBin q .neq x (.lit r) KV u = AEq q x (.lit r) fun b => KV (.lit (.bool (!b))) := by
      unfold ZBin ABin
      split
      · rename_i e; cases e; exact absurd rfl (hi _ _)
      · rename_i e; cases e
      · rfl
    rw [this, key]; rfl
@[go_sem] theorem ZBin_nilS {x : AVal} {m1 m2 : Nat} {u} : ZBin .slice .eql x (.lit (.slice none m1 m2)) KV u = (x.fits .slice = true ∧ ZOpt x.isNil (fun a => KV (.lit (.bool a))) .mk) := (zbin_nil rfl rfl ⟨(fun e => by cases e), (fun e => by cases e)⟩ (fun _ _ e => by cases e) (fun _ e => by cases e)).1
@[go_sem] theorem ZBin_nilS' {x : AVal} {m1 m2 : Nat} {u} : ZBin .slice .neq x (.lit (.slice none m1 m2)) KV u = (x.fits .slice = true ∧ ZOpt x.isNil (fun a => KV (.lit (.bool (!a)))) .mk) := (zbin_nil rfl rfl ⟨(fun e => by cases e), (fun e => by cases e)⟩ (fun _ _ e => by cases e) (fun _ e => by cases e)).2
@[go_sem] theorem ZBin_nilP {x : AVal} {u} : ZBin .ptr .eql x (.lit (.pointer none)) KV u = (x.fits .ptr = true ∧ ZOpt x.isNil (fun a => KV (.lit (.bool a))) .mk) := (zbin_nil rfl rfl ⟨(fun e => by cases e), (fun e => by cases e)⟩ (fun _ _ e => by cases e) (fun _ e => by cases e)).1
@[go_sem] theorem ZBin_nilP' {x : AVal} {u} : ZBin .ptr .neq x (.lit (.pointer none)) KV u = (x.fits .ptr = true ∧ ZOpt x.isNil (fun a => KV (.lit (.bool (!a)))) .mk) := (zbin_nil rfl rfl ⟨(fun e => by cases e), (fun e => by cases e)⟩ (fun _ _ e => by cases e) (fun _ e => by cases e)).2
@[go_sem] theorem ZBin_nilM {x : AVal} {u} : ZBin .map .eql x (.lit (.map none)) KV u = (x.fits .map = true ∧ ZOpt x.isNil (fun a => KV (.lit (.bool a))) .mk) := (zbin_nil rfl rfl ⟨(fun e => by cases e), (fun e => by cases e)⟩ (fun _ _ e => by cases e) (fun _ e => by cases e)).1
@[go_sem] theorem ZBin_nilF {x : AVal} {u} : ZBin .func .eql x (.lit .nilFunc) KV u = (x.fits .func = true ∧ ZOpt x.isNil (fun a => KV (.lit (.bool a))) .mk) := (zbin_nil rfl rfl ⟨(fun e => by cases e), (fun e => by cases e)⟩ (fun _ _ e => by cases e) (fun _ e => by cases e)).1
@[go_sem] theorem ZBin_nilI {x : AVal} {u} : ZBin .iface .eql x (.lit .nilIface) KV u = (x.fits .iface = true ∧ ZOpt x.isNil (fun a => KV (.lit (.bool a))) .mk) := (zbin_nil rfl rfl ⟨(fun e => by cases e), (fun e => by cases e)⟩ (fun _ _ e => by cases e) (fun _ e => by cases e)).1
/-! ### Regions that draw their order -/
section drw
variable {lo hi : Nat} {pl : List DP} {hist : List (Nat × AHeap)} {Z : List AObj} {nz : Nat} {chk : List (Nat × (AHeap → Prop))} {o : XOp}
theorem zopd_of {u} (hn : o.isCall = false) : ZOpD P o t h K u = ZOp P o t h K .mk := xopd_plain hn
@[go_sem] theorem ZDrw_nil {u} : ZDrw P [] pl j t h hist Z nz chk KT u = KT t h := by cases pl <;> rfl
@[go_sem] theorem ZDrw_pure {u} : ZDrw P (⟨d, o, none⟩ :: os) (⟨.pure, lo, hi⟩ :: pl) j t h hist Z nz chk KT u = ZOpD P o t h (fun v h' => h' = h ∧ ZDrw P os pl j (t.put d v) h hist Z nz chk KT .mk) .mk := rfl
@[go_sem] theorem ZDrw_read {u} : ZDrw P (⟨d, o, none⟩ :: os) (⟨.read, lo, hi⟩ :: pl) j t h hist Z nz chk KT u =
    ZOpD P o t h (fun v h' => h' = h ∧ ABack lo hist (fun g => XIs P o t g v g) ∧ ZDrw P os pl j (t.put d v) h hist Z nz ((hi, fun g => XIs P o t g v g) :: chk) KT .mk) .mk := rfl
@[go_sem] theorem ZDrw_eff {u} : ZDrw P (⟨d, o, none⟩ :: os) (⟨.eff, lo, hi⟩ :: pl) j t h hist Z nz chk KT u =
    ZOpD P o t h (fun v h' => h.length ≤ h'.length ∧ AChk (j + 1) chk h' ∧ ZDrw P os pl (j + 1) (t.put d v) h' ((j, h) :: hist) Z nz chk KT .mk) .mk := rfl
@[go_sem] theorem ZDrw_gpure {u} : ZDrw P (⟨d, o, some (g, b)⟩ :: os) (⟨.pure, lo, hi⟩ :: pl) j t h hist Z nz chk KT u =
    ZGuard (t.get g) b (ZDrw P (⟨d, o, none⟩ :: os) (⟨.pure, lo, hi⟩ :: pl) j t h hist Z nz chk KT .mk) (ZDrw P os pl j (t.put d skip) h hist Z nz chk KT .mk) .mk := rfl
@[go_sem] theorem ZDrw_gread {u} : ZDrw P (⟨d, o, some (g, b)⟩ :: os) (⟨.read, lo, hi⟩ :: pl) j t h hist Z nz chk KT u =
    ZGuard (t.get g) b (ZDrw P (⟨d, o, none⟩ :: os) (⟨.read, lo, hi⟩ :: pl) j t h hist Z nz chk KT .mk) (ZDrw P os pl j (t.put d skip) h hist Z nz chk KT .mk) .mk := rfl
@[go_sem] theorem ZDrw_geff {u} : ZDrw P (⟨d, o, some (g, b)⟩ :: os) (⟨.eff, lo, hi⟩ :: pl) j t h hist Z nz chk KT u =
    ZGuard (t.get g) b (ZDrw P (⟨d, o, none⟩ :: os) (⟨.eff, lo, hi⟩ :: pl) j t h hist Z nz chk KT .mk) (ZDrw P os pl (j + 1) (t.put d skip) h ((j, h) :: hist) Z nz chk KT .mk) .mk := rfl
@[go_sem] theorem ZDrw_fresh {u} : ZDrw P (⟨d, o, none⟩ :: os) (⟨.fresh, lo, hi⟩ :: pl) j t h hist Z nz chk KT u = XFresh o t (fun z val => Z.head? = some z ∧ hget h nz = some z ∧ ABack lo hist (fun g => hget g nz = some z) ∧
        ZDrw P os pl j (t.put d (val nz)) h hist Z.tail (nz + 1) ((hi, fun g => hget g nz = some z) :: chk) KT .mk) := rfl
@[go_sem] theorem ZOpD_call {f : AOpd} {args : List AOpd} {u} : ZOpD P (.call f args) t h K u = ADetC P (t.ev f) (args.map t.ev) h K := rfl
theorem zw_draw {u} (Z : List AObj) (hz : Nat.ble (nzOf pl pl.length) Z.length = true) (hk : ZDrw P os pl 0 t (h ++ Z.map some) [] Z h.length [] (fun t h => Q .normal ⟨n, t, dd, h⟩) .mk) : ZW P n0 md (.draw pl os) Q ⟨n, t, dd, h⟩ u := ⟨Z, hz, hk⟩
theorem zw_draw0 {u} (hz : Nat.beq (nzOf pl pl.length) 0 = true) (hk : ZDrw P os pl 0 t h [] [] h.length [] (fun t h => Q .normal ⟨n, t, dd, h⟩) .mk) : ZW P n0 md (.draw pl os) Q ⟨n, t, dd, h⟩ u :=
  ⟨[], by rw [Nat.eq_of_beq_eq_true hz]; rfl, by rw [show h ++ List.map some ([] : List AObj) = h by simp]; exact hk⟩
end drw
section plain
@[go_sem] theorem ZOpD_move {q0 : AOpd} {u} : ZOpD P (.move q0) t h K u = ZOp P (.move q0) t h K .mk := rfl
@[go_sem] theorem isCall_move {q0 : AOpd} : XOp.isCall (.move q0) = false := rfl
@[go_sem] theorem ZOpD_pick {q0 : AOpd} {q1 : AOpd} {q2 : AOpd} {u} : ZOpD P (.pick q0 q1 q2) t h K u = ZOp P (.pick q0 q1 q2) t h K .mk := rfl
@[go_sem] theorem isCall_pick {q0 : AOpd} {q1 : AOpd} {q2 : AOpd} : XOp.isCall (.pick q0 q1 q2) = false := rfl
@[go_sem] theorem ZOpD_load {q0 : AOpd} {q1 : Nat} {q2 : Bool} {u} : ZOpD P (.load q0 q1 q2) t h K u = ZOp P (.load q0 q1 q2) t h K .mk := rfl
@[go_sem] theorem isCall_load {q0 : AOpd} {q1 : Nat} {q2 : Bool} : XOp.isCall (.load q0 q1 q2) = false := rfl
@[go_sem] theorem ZOpD_store {q0 : AOpd} {q1 : AOpd} {q2 : Nat} {u} : ZOpD P (.store q0 q1 q2) t h K u = ZOp P (.store q0 q1 q2) t h K .mk := rfl
@[go_sem] theorem isCall_store {q0 : AOpd} {q1 : AOpd} {q2 : Nat} : XOp.isCall (.store q0 q1 q2) = false := rfl
@[go_sem] theorem ZOpD_nilCheck {q0 : AOpd} {u} : ZOpD P (.nilCheck q0) t h K u = ZOp P (.nilCheck q0) t h K .mk := rfl
@[go_sem] theorem isCall_nilCheck {q0 : AOpd} : XOp.isCall (.nilCheck q0) = false := rfl
@[go_sem] theorem ZOpD_bin {q0 : Bool} {q1 : EqK} {q2 : BinOp} {q3 : AOpd} {q4 : AOpd} {u} : ZOpD P (.bin q0 q1 q2 q3 q4) t h K u = ZOp P (.bin q0 q1 q2 q3 q4) t h K .mk := rfl
@[go_sem] theorem isCall_bin {q0 : Bool} {q1 : EqK} {q2 : BinOp} {q3 : AOpd} {q4 : AOpd} : XOp.isCall (.bin q0 q1 q2 q3 q4) = false := rfl
@[go_sem] theorem ZOpD_un {q0 : UnOp} {q1 : AOpd} {u} : ZOpD P (.un q0 q1) t h K u = ZOp P (.un q0 q1) t h K .mk := rfl
@[go_sem] theorem isCall_un {q0 : UnOp} {q1 : AOpd} : XOp.isCall (.un q0 q1) = false := rfl
@[go_sem] theorem ZOpD_conv {q0 : ConvK} {q1 : AOpd} {u} : ZOpD P (.conv q0 q1) t h K u = ZOp P (.conv q0 q1) t h K .mk := rfl
@[go_sem] theorem isCall_conv {q0 : ConvK} {q1 : AOpd} : XOp.isCall (.conv q0 q1) = false := rfl
@[go_sem] theorem ZOpD_fieldAddr {q0 : AOpd} {q1 : Nat} {u} : ZOpD P (.fieldAddr q0 q1) t h K u = ZOp P (.fieldAddr q0 q1) t h K .mk := rfl
@[go_sem] theorem isCall_fieldAddr {q0 : AOpd} {q1 : Nat} : XOp.isCall (.fieldAddr q0 q1) = false := rfl
@[go_sem] theorem ZOpD_field {q0 : AOpd} {q1 : Nat} {q2 : Nat} {q3 : Bool} {u} : ZOpD P (.field q0 q1 q2 q3) t h K u = ZOp P (.field q0 q1 q2 q3) t h K .mk := rfl
@[go_sem] theorem isCall_field {q0 : AOpd} {q1 : Nat} {q2 : Nat} {q3 : Bool} : XOp.isCall (.field q0 q1 q2 q3) = false := rfl
@[go_sem] theorem ZOpD_indexAddr {q0 : AOpd} {q1 : AOpd} {q2 : Nat} {u} : ZOpD P (.indexAddr q0 q1 q2) t h K u = ZOp P (.indexAddr q0 q1 q2) t h K .mk := rfl
@[go_sem] theorem isCall_indexAddr {q0 : AOpd} {q1 : AOpd} {q2 : Nat} : XOp.isCall (.indexAddr q0 q1 q2) = false := rfl
@[go_sem] theorem ZOpD_index {q0 : AOpd} {q1 : AOpd} {u} : ZOpD P (.index q0 q1) t h K u = ZOp P (.index q0 q1) t h K .mk := rfl
@[go_sem] theorem isCall_index {q0 : AOpd} {q1 : AOpd} : XOp.isCall (.index q0 q1) = false := rfl
@[go_sem] theorem ZOpD_alloc {q0 : List AVal} {u} : ZOpD P (.alloc q0) t h K u = ZOp P (.alloc q0) t h K .mk := rfl
@[go_sem] theorem isCall_alloc {q0 : List AVal} : XOp.isCall (.alloc q0) = false := rfl
@[go_sem] theorem ZOpD_box {q0 : AOpd} {u} : ZOpD P (.box q0) t h K u = ZOp P (.box q0) t h K .mk := rfl
@[go_sem] theorem isCall_box {q0 : AOpd} : XOp.isCall (.box q0) = false := rfl
@[go_sem] theorem ZOpD_build {q0 : List AVal} {q1 : List (Nat × Nat)} {q2 : List (Nat × AOpd)} {u} : ZOpD P (.build q0 q1 q2) t h K u = ZOp P (.build q0 q1 q2) t h K .mk := rfl
@[go_sem] theorem isCall_build {q0 : List AVal} {q1 : List (Nat × Nat)} {q2 : List (Nat × AOpd)} : XOp.isCall (.build q0 q1 q2) = false := rfl
@[go_sem] theorem ZOpD_buildSlice {q0 : List AVal} {q1 : Nat} {q2 : List (Nat × AOpd)} {u} : ZOpD P (.buildSlice q0 q1 q2) t h K u = ZOp P (.buildSlice q0 q1 q2) t h K .mk := rfl
@[go_sem] theorem isCall_buildSlice {q0 : List AVal} {q1 : Nat} {q2 : List (Nat × AOpd)} : XOp.isCall (.buildSlice q0 q1 q2) = false := rfl
@[go_sem] theorem ZOpD_makeSlice {q0 : List AVal} {q1 : AOpd} {q2 : AOpd} {u} : ZOpD P (.makeSlice q0 q1 q2) t h K u = ZOp P (.makeSlice q0 q1 q2) t h K .mk := rfl
@[go_sem] theorem isCall_makeSlice {q0 : List AVal} {q1 : AOpd} {q2 : AOpd} : XOp.isCall (.makeSlice q0 q1 q2) = false := rfl
@[go_sem] theorem ZOpD_iface {q0 : TypeId} {q1 : AOpd} {u} : ZOpD P (.iface q0 q1) t h K u = ZOp P (.iface q0 q1) t h K .mk := rfl
@[go_sem] theorem isCall_iface {q0 : TypeId} {q1 : AOpd} : XOp.isCall (.iface q0 q1) = false := rfl
@[go_sem] theorem ZOpD_func {q0 : Fn} {q1 : List AOpd} {q2 : List AOpd} {u} : ZOpD P (.func q0 q1 q2) t h K u = ZOp P (.func q0 q1 q2) t h K .mk := rfl
@[go_sem] theorem isCall_func {q0 : Fn} {q1 : List AOpd} {q2 : List AOpd} : XOp.isCall (.func q0 q1 q2) = false := rfl
@[go_sem] theorem ZOpD_extract {q0 : AOpd} {q1 : Nat} {u} : ZOpD P (.extract q0 q1) t h K u = ZOp P (.extract q0 q1) t h K .mk := rfl
@[go_sem] theorem isCall_extract {q0 : AOpd} {q1 : Nat} : XOp.isCall (.extract q0 q1) = false := rfl
@[go_sem] theorem ZOpD_slice {q0 : Bool} {q1 : AOpd} {q2 : Option AOpd} {q3 : Option AOpd} {q4 : Nat} {u} : ZOpD P (.slice q0 q1 q2 q3 q4) t h K u = ZOp P (.slice q0 q1 q2 q3 q4) t h K .mk := rfl
@[go_sem] theorem isCall_slice {q0 : Bool} {q1 : AOpd} {q2 : Option AOpd} {q3 : Option AOpd} {q4 : Nat} : XOp.isCall (.slice q0 q1 q2 q3 q4) = false := rfl
@[go_sem] theorem ZOpD_len {q0 : EqK} {q1 : AOpd} {u} : ZOpD P (.len q0 q1) t h K u = ZOp P (.len q0 q1) t h K .mk := rfl
@[go_sem] theorem isCall_len {q0 : EqK} {q1 : AOpd} : XOp.isCall (.len q0 q1) = false := rfl
@[go_sem] theorem ZOpD_append {q0 : Nat} {q1 : AOpd} {q2 : AOpd} {u} : ZOpD P (.append q0 q1 q2) t h K u = ZOp P (.append q0 q1 q2) t h K .mk := rfl
@[go_sem] theorem isCall_append {q0 : Nat} {q1 : AOpd} {q2 : AOpd} : XOp.isCall (.append q0 q1 q2) = false := rfl
@[go_sem] theorem ZOpD_idxA {q0 : AOpd} {q1 : AOpd} {q2 : Nat} {q3 : Nat} {u} : ZOpD P (.idxA q0 q1 q2 q3) t h K u = ZOp P (.idxA q0 q1 q2 q3) t h K .mk := rfl
@[go_sem] theorem isCall_idxA {q0 : AOpd} {q1 : AOpd} {q2 : Nat} {q3 : Nat} : XOp.isCall (.idxA q0 q1 q2 q3) = false := rfl
@[go_sem] theorem ZOpD_makeMap  {u} : ZOpD P .makeMap t h K u = ZOp P .makeMap t h K .mk := rfl
@[go_sem] theorem isCall_makeMap  : XOp.isCall .makeMap = false := rfl
@[go_sem] theorem ZOpD_mapPut {q0 : Bool} {q1 : AOpd} {q2 : AOpd} {q3 : AOpd} {u} : ZOpD P (.mapPut q0 q1 q2 q3) t h K u = ZOp P (.mapPut q0 q1 q2 q3) t h K .mk := rfl
@[go_sem] theorem isCall_mapPut {q0 : Bool} {q1 : AOpd} {q2 : AOpd} {q3 : AOpd} : XOp.isCall (.mapPut q0 q1 q2 q3) = false := rfl
@[go_sem] theorem ZOpD_mapGet {q0 : Bool} {q1 : AVal} {q2 : AOpd} {q3 : AOpd} {q4 : Bool} {u} : ZOpD P (.mapGet q0 q1 q2 q3 q4) t h K u = ZOp P (.mapGet q0 q1 q2 q3 q4) t h K .mk := rfl
@[go_sem] theorem isCall_mapGet {q0 : Bool} {q1 : AVal} {q2 : AOpd} {q3 : AOpd} {q4 : Bool} : XOp.isCall (.mapGet q0 q1 q2 q3 q4) = false := rfl
@[go_sem] theorem ZOpD_minMax {q0 : Bool} {q1 : List AOpd} {u} : ZOpD P (.minMax q0 q1) t h K u = ZOp P (.minMax q0 q1) t h K .mk := rfl
@[go_sem] theorem isCall_minMax {q0 : Bool} {q1 : List AOpd} : XOp.isCall (.minMax q0 q1) = false := rfl
@[go_sem] theorem ZOpD_copy {q0 : Nat} {q1 : AOpd} {q2 : AOpd} {u} : ZOpD P (.copy q0 q1 q2) t h K u = ZOp P (.copy q0 q1 q2) t h K .mk := rfl
@[go_sem] theorem isCall_copy {q0 : Nat} {q1 : AOpd} {q2 : AOpd} : XOp.isCall (.copy q0 q1 q2) = false := rfl
end plain
section fre
variable {KF : AObj → (Nat → AVal) → Prop}
@[go_sem] theorem XFresh_alloc {z : List AVal} : XFresh (.alloc z) t KF = KF (.rows [z]) (fun a => .ptr a 0 0) := rfl
@[go_sem] theorem XFresh_box {x : AOpd} : XFresh (.box x) t KF = ZOpt (acells (t.ev x)) (fun cs => KF (.rows [cs]) (fun a => .ptr a 0 0)) .mk := rfl
@[go_sem] theorem XFresh_buildSlice {z : List AVal} {n : Nat} {pt : List (Nat × AOpd)} : XFresh (.buildSlice z n pt) t KF = (n * z.length ≤ 16777216 ∧ ZSet z.length (List.replicate n z) (pt.map fun q => (q.1, t.ev q.2)) (fun es => KF (.rows es) (fun a => .slice a z.length 0 n (some n))) .mk) := rfl
def ZBuildM (z : List AVal) (x y : AVal) (K : AObj → (Nat → AVal) → Prop) (_ : Sh K) : Prop := AFresh.ABuildM z x y K
@[go_sem] theorem XFresh_makeSlice {z : List AVal} {x y : AOpd} : XFresh (.makeSlice z x y) t KF = ZBuildM z (t.ev x) (t.ev y) KF .mk := rfl
@[go_sem] theorem ZBuildM_eq {zs : List AVal} {u} : ZBuildM zs (.lit (.int k z)) (.lit (.int k2 z2)) KF u = (0 ≤ z ∧ z ≤ z2 ∧ z2 ≤ 4294967296 ∧ KF (.rows (List.replicate z2.toNat zs)) (fun a => .slice a zs.length 0 z.toNat (some z2.toNat))) := rfl
variable {p : AHeap → Prop} {hs : List (Nat × AHeap)} {q lo : Nat} {g : AHeap} {cs' : List (Nat × (AHeap → Prop))}
@[go_sem] theorem ABack_nil : ABack lo [] p = True := rfl
@[go_sem] theorem ABack_cons : ABack lo ((q, g) :: hs) p = ((lo ≤ q → p g) ∧ ABack lo hs p) := rfl
@[go_sem] theorem AChk_nil : AChk q [] g = True := rfl
@[go_sem] theorem AChk_cons {hi : Nat} : AChk q ((hi, p) :: cs') g = ((q ≤ hi → p g) ∧ AChk q cs' g) := rfl
@[go_sem] theorem XIs_eq {o : XOp} {h' : AHeap} : XIs P o t h v h' = (o.isCall = false ∧ ZOp P o t h (fun v' k => v' = v ∧ k = h') .mk) := rfl
attribute [go_sem] List.head?_cons List.tail_cons Option.some.injEq
end fre
theorem zw_loopW {c : XCode} {u} (I : Nat → ASt → Prop) (k0 : Nat) (s0 : ASt) (hn0 : s0.n = s.n) (hw : Weaker n0 s s0) (h0 : I k0 s0)
    (hb : ∀ k t d h, I k ⟨s.n, t, d, h⟩ → ZW P n0 md c (Then (fun s' => ∃ k' s2, k' < k ∧ s2.n = s'.n ∧ Weaker n0 s' s2 ∧ I k' s2) Q) ⟨s.n, t, d, h⟩ .mk) : ZW P n0 md (.loop c) Q s u := ⟨I, k0, ⟨s0, hn0, hw, h0⟩, hb⟩
theorem zw_loop {c : XCode} {u} (I : Nat → ASt → Prop) (k0 : Nat) (h0 : I k0 s) (hb : ∀ k t d h, I k ⟨s.n, t, d, h⟩ → ZW P n0 md c (Then (fun s' => ∃ k', k' < k ∧ I k' s') Q) ⟨s.n, t, d, h⟩ .mk) : ZW P n0 md (.loop c) Q s u :=
  zw_loopW I k0 s rfl (Weaker.refl _) h0 fun k t d h hI => xw_mono _ _ _ _ (Then_imp (fun _ _ _ ⟨k', h1, h2⟩ => ⟨k', _, h1, rfl, Weaker.refl _, h2⟩) (fun _ _ _ _ hq => hq)) (hb k t d h hI)
theorem zw_range {f : AOpd} {ps : Array Tmp} {as bo : Code} {xa xb : XCode} {u} {gf : FuncId} {first cap : List AVal} (hmd : md = none) (hf : s.t.ev f = .func (.func gf) first cap) (hok : callOk P gf = true)
    (hc : ACall P gf (first ++ ([.yieldf (s.h.length + 1)] ++ cap)) (s.h ++ [some .defd, some (.loop s.n s.t ps as bo .ready none s.h.length)]) fun _ h' => XRangeEnd s.n s.t s.d s.h.length ps as bo Q h') : ZW P n0 md (.range f ps as bo xa xb) Q s u := ⟨hmd, gf, first, cap, hf, hok, hc⟩
theorem acall_z (hm : P.follows .mixedOrders = true) {f : FuncId} {nt : Nat} {rs : List XRes} {xc : XCode} (hf : xfunc P f = some ⟨nt, rs, xc⟩) {args : List AVal} {R : AVal → AHeap → Prop} (hn : Nat.ble args.length nt = true)
    (hw : ZW P h.length none xc (XFPost rs h R) ⟨nt, mkTab 0 args, [], h⟩ .mk) : ACall P f args h R := acall_x hm hf hn hw
end rules
end Go.AL
