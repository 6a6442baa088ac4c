/-
  Part 1: a symbolic executor over the model, contracts of functions and plain laws.
-/
import Derived.CallsIn
import Derived.DeepKeys3
import Derived.Deep.MidRow
import Derived.Laws.Append
import Derived.Below
import Derived.Laws.AppendOwn
import Derived.RangeFuncOwn
import Derived.Laws.CopyRow
import Derived.RangeFuncBound
import Derived.IntWalk
import Derived.Laws.Small
import Derived.Laws.MakeOwn
import Derived.Great.BuildSlice
import Derived.Laws.OwnMore
set_option linter.unusedVariables false
set_option linter.unusedSimpArgs false
set_option maxRecDepth 10000
set_option maxHeartbeats 80000000
abbrev Bx:=List UInt8
theorem om {p:Prop} (h:p:=by omega):p:=h
theorem de {p:Prop} (h:p:=by decide):p:=h
theorem si {p:Prop} (h:p:=by simp):p:=h
theorem kr {p:Prop} (h:p:=by kernel_rfl):p:=h
noncomputable abbrev Cp {p:Prop}:Decidable p:=Classical.propDecidable p
abbrev aD:=@if_pos
abbrev aG:=@Exists.intro
abbrev aA:=@And.intro
abbrev aC:=@if_neg
abbrev aB:=@List.getD_eq_getElem?_getD
abbrev aM:=@List.getElem?_eq_getElem
abbrev qU:=@decide_eq_true
abbrev eO:=@of_decide_eq_true
abbrev aH:=@Classical.byContradiction
abbrev bV:=@Nat.not_lt_zero
abbrev aN:=@Nat.le_refl
abbrev cT:=@List.getElem_mem
abbrev aK:=@Nat.zero_le
abbrev bH:=@List.mem_cons
abbrev iJ:=@List.not_mem_nil
abbrev bI:=@not_not_intro
abbrev fP:=@Prod.mk.inj
abbrev eC:=@Prod.ext
abbrev eF:=@Prod.mk.injEq
abbrev gQ:=@Iff.rfl
abbrev qW:=@Classical.epsilon_spec
abbrev dD:=@List.getElem_of_mem
abbrev jY:=@Nat.mul_le_mul
abbrev bL:=@Nat.le_trans
abbrev bC:=@Classical.not_not
abbrev bO:=@List.mem_singleton
abbrev bW:=@List.mem_cons_self
abbrev bP:=@List.mem_cons_of_mem
abbrev yE:=@Rat.sub_self
abbrev oH:=@Rat.zero_mul
abbrev bT:=@Int.eq_ofNat_of_zero_le
abbrev aJ:=@Int.toNat_natCast
abbrev cG:=@List.getElem?_eq_none
abbrev jQ:=@List.ext_getElem
abbrev cB:=@List.length_pos_iff
abbrev bS:=@List.length_cons
abbrev bB:=@List.length_drop
abbrev tM:=@Int.zero_mul
abbrev fX:=@Int.le_refl
abbrev dL:=@Int.mul_zero
abbrev aS:=@List.length_append
abbrev bF:=@Int.toNat_of_nonneg
abbrev jA:=@Int.emod_nonneg
abbrev fQ:=@Int.emod_lt_of_pos
abbrev cV:=@List.take_succ_eq_append_getElem
abbrev iB:=@List.length_map
abbrev aY:=@List.length_take
abbrev jB:=@List.map_append
abbrev wR:=@List.filter_cons
abbrev oR:=@List.map_congr_left
abbrev fY:=@List.ext_getElem?
abbrev eP:=@List.getElem?_set
abbrev nA:=@List.getElem?_map
abbrev jC:=@Option.map_some
abbrev aL:=@List.getElem?_eq_some_iff
abbrev lK:=@List.any_eq_true
abbrev mW:=@List.map_cons
abbrev kD:=@List.findIdx?_eq_some_iff_getElem
abbrev eA:=@List.take_length
abbrev mB:=@List.mem_map
abbrev jD:=@List.mem_filter
abbrev cU:=@List.length_singleton
abbrev dT:=@Nat.lt_succ_self
abbrev gR:=@Nat.lt_irrefl
abbrev cL:=@Nat.add_mul
abbrev iC:=@Nat.one_mul
abbrev mQ:=@Bool.eq_iff_iff
abbrev cE:=@List.mem_append
abbrev dG:=@List.mem_of_mem_take
abbrev qX:=@Bool.eq_false_iff
abbrev dN:=@List.length_set
abbrev bQ:=@Nat.mul_le_mul_right
abbrev cZ:=@List.getElem?_replicate
abbrev cF:=@List.eq_nil_of_length_eq_zero
abbrev nB:=@Nat.lt_trichotomy
abbrev Ex:=@dif_neg
abbrev kS:=@List.pairwise_map
abbrev jZ:=@List.mem_range
abbrev dB:=@Nat.eq_zero_or_pos
abbrev fF:=@Nat.le_of_ble_eq_true
abbrev cD:=@cond_false
abbrev bR:=@cond_true
abbrev aE:=@Bool.and_eq_true
abbrev cQ:=@Bool.or_eq_true
abbrev nC:=@Bool.not_eq_true'
abbrev vI:=@Nat.mul_one
abbrev kE:=@List.drop_eq_getElem_cons
abbrev vJ:=@Array.size_append
abbrev gZ:=@List.size_toArray
abbrev cC:=@List.append_assoc
abbrev eJ:=@Nat.zero_add
abbrev kJ:=@List.nil_append
abbrev fG:=@Array.ext'
abbrev jE:=@Array.length_toList
abbrev aU:=@List.getElem?_take
abbrev mC:=@Nat.succ_pos
abbrev aF:=@Array.getElem?_eq_some_iff
abbrev aZ:=@Nat.lt_of_lt_of_le
abbrev aP:=@congrArg
abbrev bU:=@List.getElem?_append_left
abbrev cS:=@List.getElem?_append_right
abbrev iV:=@List.getElem?_cons_zero
abbrev kT:=@Option.some.injEq
abbrev bM:=@Array.getD_eq_getD_getElem?
abbrev cK:=@Array.getElem?_setIfInBounds
abbrev zU:=@Int.pow_pos
abbrev dW:=@Int.le_of_lt
abbrev dU:=@Int.ediv_nonneg
abbrev sA:=@Int.ediv_le_self
abbrev lQ:=@Int.mul_le_mul_of_nonpos_left
abbrev kA:=@Int.tdiv_eq_ediv_of_nonneg
abbrev sW:=@Int.tmod_nonneg
abbrev iD:=@Int.natAbs_tmod
abbrev fR:=@Int.tmod_eq_emod_of_nonneg
abbrev jN:=@Nat.add_assoc
abbrev bD:=@List.getElem?_drop
abbrev uW:=@Array.ext_getElem?
abbrev rF:=@Array.getElem?_modify
abbrev yF:=@Nat.ble_eq
abbrev kU:=@List.mem_of_getElem?
abbrev pK:=@List.foldl_cons
abbrev uX:=@List.mapM_cons
abbrev iW:=@List.flatMap_cons
abbrev sX:=@List.take_left'
abbrev gE:=@List.drop_drop
abbrev yG:=@Nat.zero_mul
abbrev eX:=@List.drop_zero
abbrev vK:=@Nat.mul_pos
abbrev qY:=@Nat.le_of_eq
abbrev mD:=@List.take_of_length_le
abbrev dY:=@List.drop_append_of_le_length
abbrev sM:=@List.take_append_of_le_length
abbrev mX:=@Bool.true_and
abbrev fL:=@Nat.mul_comm
abbrev dO:=@Nat.mod_lt
abbrev qJ:=@Nat.le_mul_of_pos_right
abbrev bJ:=@Int.mul_comm
abbrev eY:=@Nat.min_eq_left
abbrev eB:=@Nat.mod_eq_of_lt
abbrev tN:=@Int.zero_add
abbrev oI:=@Option.bind_some
abbrev fM:=@Nat.lt_trans
abbrev oJ:=@Option.getD_some
abbrev rG:=@List.set_getElem_self
abbrev mE:=@UInt8.toNat_ofNat'
abbrev wS:=@Nat.lt_of_not_le
abbrev oK:=@Nat.le_of_not_lt
abbrev sY:=@Bool.decide_and
abbrev gN:=@List.cons_append
abbrev bX:=@Nat.lt_of_le_of_lt
abbrev mF:=@List.getElem?_set_self
abbrev qZ:=@Nat.sub_zero
abbrev eZ:=@List.append_nil
abbrev tO:=@Nat.ne_of_lt
abbrev fC:=@List.all_eq_true
abbrev iF:=@Array.getElem?_toList
abbrev sN:=@List.drop_eq_nil_iff
abbrev oO:=@Array.getElem?_eq_getElem
abbrev vL:=@decide_eq_true_eq
abbrev yM:=@Option.some.inj
abbrev uY:=@List.take_take
abbrev zV:=@List.drop_take
abbrev oS:=@Nat.mul_le_mul_left
abbrev nD:=@Nat.lt_succ_of_lt
abbrev gO:=@List.pairwise_append
abbrev rA:=@Array.all_eq_true_iff_forall_mem
abbrev pL:=@List.length_nil
abbrev mG:=@List.pairwise_cons
abbrev rB:=@List.map_set
abbrev fA:=@Nat.div_le_self
abbrev dQ:=@Int.natAbs_mul
abbrev dC:=@Int.natAbs_natCast
abbrev eL:=@Nat.mul_lt_mul''
abbrev sO:=@Nat.pow_add
abbrev eD:=@Nat.pow_succ
abbrev sB:=@Rat.lt_iff
abbrev sP:=@List.mem_append_left
abbrev dH:=@Int.mul_nonneg
abbrev aV:=@Int.mul_le_mul_of_nonneg_left
abbrev cO:=@Int.mul_add
abbrev eT:=@Int.mul_one
abbrev gH:=@Int.pow_succ
abbrev cP:=@Int.mul_assoc
abbrev yN:=@Nat.div_lt_self
abbrev dP:=@Nat.pos_of_ne_zero
abbrev wT:=@Nat.div_eq_of_lt
abbrev cI:=@List.length_eq_zero_iff
abbrev gI:=@List.dropLast_concat_getLast
abbrev yO:=@List.headD_cons
abbrev kV:=@Nat.sub_self
abbrev sQ:=@Nat.pow_pos
abbrev pD:=@Nat.mul_assoc
abbrev sR:=@List.replicate_succ'
abbrev dF:=@List.drop_eq_nil_of_le
abbrev eV:=@Int.add_zero
abbrev mR:=@Int.natCast_add
abbrev dE:=@Int.natCast_mul
abbrev iM:=@Int.add_comm
abbrev nS:=@List.dropWhile_cons_of_pos
abbrev nT:=@List.dropWhile_cons_of_neg
abbrev mH:=@List.mem_replicate
abbrev oL:=@List.drop_length
abbrev bN:=@Int.mul_le_mul_of_nonneg_right
abbrev bG:=@Nat.pow_le_pow_right
abbrev vM:=@Int.pow_add
abbrev fH:=@List.take_append_drop
abbrev kW:=@List.mem_of_mem_drop
abbrev rD:=@List.takeWhile_append_dropWhile
abbrev mI:=@Rat.neg_divInt_neg
abbrev sC:=@Rat.divInt_ofNat
abbrev mJ:=@Int.lt_or_gt_of_ne
abbrev kB:=@Int.fdiv_fmod_unique'
abbrev gP:=@Int.mul_sub
abbrev kX:=@Int.fdiv_fmod_unique
abbrev sS:=@Int.mul_neg
abbrev iH:=@Int.emod_add_mul_ediv
abbrev fI:=@Int.ediv_lt_of_lt_mul
abbrev iP:=@Int.one_mul
abbrev zW:=@Int.sub_mul
abbrev jO:=@Int.add_mul
abbrev sT:=@Int.ediv_emod_unique
abbrev nE:=@List.getElem_drop
abbrev hZ:=@Int.le_ediv_iff_mul_le
abbrev nU:=@Int.lt_of_mul_lt_mul_right
abbrev sZ:=@Int.ediv_mul_le
abbrev jP:=@Int.mul_pos
abbrev eW:=@Int.le_trans
abbrev fD:=@Nat.pow_lt_pow_iff_right
abbrev pO:=@Rat.num_eq_zero
abbrev nV:=@Int.natAbs_neg
abbrev qL:=@List.pairwise_singleton
abbrev nW:=@List.mem_iff_getElem
abbrev tP:=@Rat.le_of_lt
abbrev pY:=@Rat.not_lt
abbrev gF:=@Rat.lt_irrefl
abbrev sU:=@Rat.le_refl
abbrev uZ:=@Rat.mul_nonneg
abbrev zX:=@Rat.mul_pos
abbrev pZ:=@Rat.div_mul_cancel
abbrev tQ:=@Rat.add_zero
abbrev zY:=@Rat.one_mul
abbrev fS:=@Int.natCast_ediv
abbrev sD:=@Int.natCast_emod
abbrev wU:=@Int.ediv_le_ediv
abbrev kY:=@Nat.gcd_comm
abbrev qA:=@Int.gcd_zero_right
abbrev gS:=@List.drop_one
abbrev pP:=@UInt8.toNat.inj
abbrev lL:=@Int.gcd_natCast_natCast
abbrev oM:=@Nat.gcd_le_right
abbrev dR:=@Int.mul_ediv_cancel_left
abbrev eE:=@Nat.le_mul_of_pos_left
abbrev oN:=@Int.gcd_dvd_left
abbrev nF:=@Int.gcd_dvd_right
abbrev gJ:=@Int.gcd_pos_of_ne_zero_right
abbrev yH:=@Int.ediv_one
abbrev iX:=@Int.tdiv_eq_ediv_of_dvd
abbrev pQ:=@Int.mul_ne_zero
abbrev fT:=@Bool.not_eq_true
abbrev oU:=@List.dropWhile_cons
abbrev fJ:=@List.length_replicate
abbrev kZ:=@Nat.add_eq_zero_iff
abbrev mK:=@Int.natCast_nonneg
abbrev rC:=@Nat.mul_succ
abbrev oV:=@List.takeWhile_cons
abbrev kF:=@Int.natAbs_ediv_le_natAbs
abbrev yI:=@Int.ofNat_le
noncomputable section
section
namespace Go.Eng
inductive Ty where
 | int (k:IntKind)
 | bool
 | str
 | pair (a b:Ty)
 | slice (t:Ty)
 deriving DecidableEq
@[reducible] def Ty.T:Ty->Type
 | .int _=>Int
 | .bool=>Bool
 | .str=>Bx
 | .pair a b=>a.T × b.T
 | .slice t=>List t.T
def Ty.dflt:(t:Ty)->t.T
 | .int _=>(0:Int)
 | .bool=>false
 | .str=>[]
 | .pair a b=>(a.dflt,b.dflt)
 | .slice _=>[]
def Ty.flat:Ty->Bool
 | .slice _=>false
 | .pair a b=>a.flat&&b.flat
 | _=>true
def Ty.size:Ty->Nat
 | .pair a b=>a.size+b.size
 | _=>1
structure MapS (α:Type) where
 es:List (Nat × Int × α)
 clock:Nat
def vX {α:Type}:List (Nat × Int × α)->Int->Option α
 | [],_=>none
 | e::r,n=>if e.2.1=n then some e.2.2 else vX r n
def setK {α:Type}:List (Nat × Int × α)->Int->α->List (Nat × Int × α)
 | [],_,_=>[]
 | e::r,n,x=>if e.2.1=n then (e.1,n,x)::r else e::setK r n x
def delK {α:Type}:List (Nat × Int × α)->Int->List (Nat × Int × α)
 | [],_=>[]
 | e::r,n=>if e.2.1=n then r else e::delK r n
def MapS.get {α:Type} (m:MapS α) (n:Int):Option α:=vX m.es n
def MapS.put {α:Type} (m:MapS α) (n:Int) (x:α):MapS α:=
 match vX m.es n with
 | some _=>⟨setK m.es n x,m.clock⟩
 | none=>⟨m.es++ [(m.clock,n,x)],m.clock+1⟩
structure MapS.Wf {α:Type} (m:MapS α):Prop where
 born:∀e∈m.es,e.1<m.clock
 times:m.es.Pairwise fun a b=>a.1≠b.1
 keys:m.es.Pairwise fun a b=>a.2.1≠b.2.1
inductive SV where
 | any
 | val (v:Value)
 | bl (p:Prop) (d:Decidable p)
 | str (s:Bx)
 | seq (t:Ty) (xs:List t.T)
 | lit (es:Nat) (cells:List SV)
 | elem (t:Ty) (xs:List t.T) (i off:Nat)
 | lelem (cells:List SV) (off:Nat)
 | ptr (nm off:Nat)
 | ref (nm ver:Nat)
 | vptr (nm ver i sz off:Nat)
 | wide (nm ver:Nat)
 | agg (l:List SV)
 | tup (l:List SV)
 | clo (f:FuncId) (first caps:List SV)
 | yld (l:Nat)
 | itr (n:Nat) (items:Nat->List SV)
 | mp (nm:Nat)
 | sub (nm ver s i:Nat)
 | subp (nm ver s:Nat)
 | part (nm ver i j z:Nat)
 | lim (nm ver i z:Nat)
 | ifc
 | sft (i:Option Nat)
 | wcel (n:Int)
 | fmp (ks:List (Int × Int)) (vs:List SV)
inductive HO where
 | dead
 | frc (l:List SV)
 | gone
 | yst (st:Option Nat) (n:Nat) (items:Nat->List SV)
 | cells (l:List SV) (elem:TypeId)
 | vec (ver:Nat) (t:Ty) (xs:List t.T) (elem:TypeId)
 | fro (ver:Nat) (t:Ty) (xs:List t.T)
 | map (k:IntKind) (t:Ty) (m:MapS t.T)
 | mit (m since:Nat) (seen:List Nat) (c0:Nat)
 | res
 | vv (ver s:Nat) (t:Ty) (xss:List (List t.T)) (pend:Option (Nat × List t.T)) (eo ei:TypeId)
 | lnt (ver:Nat) (t:Ty) (xs:List t.T)
 | qm (ks:List (Int × Int)) (vs:List SV)
 | frm (ks:List (Int × Int)) (vs:List SV)
structure St where
 tmps:List (Nat × SV)
 heap:List HO
structure Need (p C:Prop):Prop where
 ok:p
 go:C
structure Giv (p C:Prop):Prop where
 go:p->C
structure Br (p A B:Prop):Prop where
 yes:p->A
 no:¬p->B
def chk (k:IntKind) (n:Int) (C:Prop):Prop:=
 match k with
 | .i8=>Need (-128<=n/\n<=127) C
 | .i16=>Need (-32768<=n/\n<=32767) C
 | .i32=>Need (-2147483648<=n/\n<=2147483647) C
 | .i64=>Need (-9223372036854775808<=n/\n<=9223372036854775807) C
 | .u8=>Need (0<=n/\n<=255) C
 | .u16=>Need (0<=n/\n<=65535) C
 | .u32=>Need (0<=n/\n<=4294967295) C
 | .u64=>Need (0<=n/\n<=18446744073709551615) C
def giv (k:IntKind) (n:Int) (C:Prop):Prop:=
 match k with
 | .i8=>Giv (-128<=n/\n<=127) C
 | .i16=>Giv (-32768<=n/\n<=32767) C
 | .i32=>Giv (-2147483648<=n/\n<=2147483647) C
 | .i64=>Giv (-9223372036854775808<=n/\n<=9223372036854775807) C
 | .u8=>Giv (0<=n/\n<=255) C
 | .u16=>Giv (0<=n/\n<=65535) C
 | .u32=>Giv (0<=n/\n<=4294967295) C
 | .u64=>Giv (0<=n/\n<=18446744073709551615) C
def lo:IntKind->Int
 | .i8=> -128 | .i16=> -32768 | .i32=> -2147483648 | .i64=> -9223372036854775808 | _=>0
def hi:IntKind->Int
 | .i8=>127 | .i16=>32767 | .i32=>2147483647 | .i64=>9223372036854775807
 | .u8=>255 | .u16=>65535 | .u32=>4294967295 | .u64=>18446744073709551615
def inK (k:IntKind) (n:Int):Prop:=lo k<=n/\n<=hi k
theorem Ac {k:IntKind} {n:Int} {C:Prop} (h:chk k n C):inK k n/\C:=by cases k<;>exact ⟨h.ok,h.go⟩
theorem aBi {k:IntKind} {n:Int} {C:Prop} (h:giv k n C) (hk:inK k n):C:=by cases k<;>exact h.go hk
def look (l:List (Nat × SV)) (t:Nat):SV:=
 match l with
 | []=>.any
 | (i,v)::r=>bif Nat.beq i t then v else look r t
def put (l:List (Nat × SV)) (t:Nat) (v:SV):List (Nat × SV):=
 match l with
 | []=>[(t,v)]
 | (i,u)::r=>bif Nat.beq i t then (t,v)::r else (i,u)::put r t v
def dA {α:Type} {β:Sort _}:List α->(List α->β)->β
 | [],k=>k []
 | x::r,k=>dA r fun r'=>k (x::r')
theorem bY {α:Type} {β:Sort _} (l:List α) (k:List α->β):dA l k=k l:=by
 induction l generalizing k with
 | nil=>rfl
 | cons x r ih=>simp only[dA];rw[ih]
def cst (v:Value):SV:=
 match v with
 | .int k n=>bif decide (lo k<=n)&&decide (n<=hi k) then .val (.int k n) else .any
 | .string s=>bif Nat.ble s.data.toList.length 140737488355328 then .str s.data.toList else .any
 | v=>.val v
def ev (l:List (Nat × SV)):Operand->SV
 | .tmp t=>look l t
 | .const v=>cst v
 | .func f=>.clo f [] []
 | .global _=>.any
def hnf (s:SV) (K:SV->Prop):Prop:=
 match s with
 | .any=>K .any
 | .val v=>K (.val v)
 | .bl p d=>K (.bl p d)
 | .str s=>K (.str s)
 | .seq t xs=>K (.seq t xs)
 | .lit e c=>K (.lit e c)
 | .elem t xs i o=>K (.elem t xs i o)
 | .lelem c o=>K (.lelem c o)
 | .ptr a b=>K (.ptr a b)
 | .ref a b=>K (.ref a b)
 | .vptr a b i z o=>K (.vptr a b i z o)
 | .wide a b=>K (.wide a b)
 | .agg l=>K (.agg l)
 | .tup l=>K (.tup l)
 | .clo f a b=>K (.clo f a b)
 | .yld l=>K (.yld l)
 | .itr n i=>K (.itr n i)
 | .mp n=>K (.mp n)
 | .sub a b c d=>K (.sub a b c d)
 | .subp a b c=>K (.subp a b c)
 | .part a b c d e=>K (.part a b c d e)
 | .lim a b c d=>K (.lim a b c d)
 | .ifc=>K .ifc
 | .sft i=>K (.sft i)
 | .wcel n=>K (.wcel n)
 | .fmp a b=>K (.fmp a b)
theorem jR (s:SV) (K:SV->Prop):hnf s K=K s:=by cases s<;>rfl
def hnfL (l:List SV) (K:List SV->Prop):Prop:=
 match l with
 | []=>K []
 | x::r=>hnf x fun x'=>hnfL r fun r'=>K (x'::r')
theorem lU (l:List SV) (K:List SV->Prop):hnfL l K=K l:=by
 induction l generalizing K with
 | nil=>rfl
 | cons x r ih=>simp only[hnfL];rw[jR,ih]
def nG:List (Nat × SV)->(List (Nat × SV)->Prop)->Prop
 | [],k=>k []
 | (t,v)::r,k=>hnf v fun v'=>nG r fun r'=>k ((t,v')::r')
theorem nX (l:List (Nat × SV)) (k:List (Nat × SV)->Prop):nG l k=k l:=by
 induction l generalizing k with
 | nil=>rfl
 | cons x r ih=>simp only[nG];rw[jR,ih]
def hnfO (o:HO) (K:HO->Prop):Prop:=
 match o with
 | .dead=>K .dead
 | .frc l=>hnfL l fun l'=>K (.frc l')
 | .gone=>K .gone
 | .yst st n items=>K (.yst st n items)
 | .cells l e=>hnfL l fun l'=>K (.cells l' e)
 | .vec v t xs e=>K (.vec v t xs e)
 | .fro v t xs=>K (.fro v t xs)
 | .map k t m=>K (.map k t m)
 | .mit m s l c=>K (.mit m s l c)
 | .res=>K .res
 | .vv a b c d e f g=>K (.vv a b c d e f g)
 | .lnt a b c=>K (.lnt a b c)
 | .qm a b=>dA a fun a'=>hnfL b fun b'=>K (.qm a' b')
 | .frm a b=>dA a fun a'=>hnfL b fun b'=>K (.frm a' b')
theorem aJo (s:HO) (K:HO->Prop):hnfO s K=K s:=by cases s<;>simp only[hnfO,lU,bY]
def qM:List HO->(List HO->Prop)->Prop
 | [],k=>k []
 | o::r,k=>hnfO o fun o'=>qM r fun r'=>k (o'::r')
theorem qB (l:List HO) (k:List HO->Prop):qM l k=k l:=by
 induction l generalizing k with
 | nil=>rfl
 | cons x r ih=>simp only[qM];rw[aJo,ih]
def setT (N:Nat) (l:List (Nat × SV)) (d:Option Nat) (v:SV) (K:List (Nat × SV)->Prop):Prop:=
 match d with
 | none=>K l
 | some t=>bif Nat.blt t N then dA (put l t v) K else False
def enc:(t:Ty)->t.T->List SV
 | .int k,n=>[.val (.int k n)]
 | .bool,b=>[.bl (b=true) inferInstance]
 | .str,s=>[.str s]
 | .pair a b,x=>enc a x.1++enc b x.2
 | .slice t,xs=>[.seq t xs]
def givT:(t:Ty)->t.T->Prop->Prop
 | .int k,n,C=>giv k n C
 | .pair a b,x,C=>givT a x.1 (givT b x.2 C)
 | .slice t,xs,C=>Giv (List.length (α:=t.T) xs<=140737488355328) C
 | _,_,C=>C
def dfK:(t:Ty)->(t.T->Prop)->Prop
 | .int _,K=>K (0:Int)
 | .bool,K=>K false
 | .str,K=>K []
 | .pair a b,K=>dfK a fun x=>dfK b fun y=>K (x,y)
 | .slice _,K=>K []
theorem Jc:∀(t:Ty) (K:t.T->Prop),dfK t K=K t.dflt
 | .int _,_=>rfl
 | .bool,_=>rfl
 | .str,_=>rfl
 | .pair a b,K=>by simp only[dfK,Ty.dflt];rw[Jc a,Jc b]
 | .slice _,_=>rfl
structure Ix (n:Int) (C:Nat->Prop):Prop where
 go:∀i:Nat,n=(i:Int)->C i
theorem Ix.nat {j:Nat} {C:Nat->Prop} (h:C j):Ix (j:Int) C:=by
 refine ⟨fun i e=>?_⟩;have:j=i:=om;subst this;exact h
theorem Ix.add {j:Nat} {C:Nat->Prop} (h:C (j+1)):Ix ((j:Int)+1) C:=by
 refine ⟨fun i e=>?_⟩;have:j+1=i:=om;subst this;exact h
theorem Ix.zero {C:Nat->Prop} (h:C 0):Ix 0 C:=by
 refine ⟨fun i e=>?_⟩;have:0=i:=om;subst this;exact h
theorem Ix.one {C:Nat->Prop} (h:C 1):Ix 1 C:=by
 refine ⟨fun i e=>?_⟩;have:1=i:=om;subst this;exact h
theorem Ix.two {C:Nat->Prop} (h:C 2):Ix 2 C:=by
 refine ⟨fun i e=>?_⟩;have:2=i:=om;subst this;exact h
theorem Br.mkY {p A B:Prop} (hp:p) (h:A):Br p A B:=⟨fun _=>h,fun hn=>absurd hp hn⟩
theorem Br.mkN {p A B:Prop} (hp:¬p) (h:B):Br p A B:=⟨fun h=>absurd h hp,fun _=>h⟩
theorem Ix.use {n:Int} {C:Nat->Prop} (h:Ix n C) (h0:0<=n):C n.toNat:=h.go _ om
def one (l:List SV):SV:=
 match l with
 | [v]=>v
 | vs=>.agg vs
def hget (H:List HO) (n:Nat):HO:=H.getD n .dead
def hset (H:List HO) (n:Nat) (o:HO):List HO:=H.set n o
def Bi:HO->Bool
 | .res=>true
 | _=>false
def hasB (H:List HO) (nm:Nat):Bool:=Nat.blt nm H.length&& !Bi (hget H nm)
def iN (H:List HO) (nm:Nat):Nat:=
 match hget H nm with
 | .vec v _ _ _=>v
 | .fro v _ _=>v
 | _=>0
def cur (H:List HO) (nm:Nat):SV:=.ref nm (iN H nm)
def oneC (H:List HO):SV->Bool
 | .val v=>match v with
  | .agg _=>false
  | .tuple _=>false
  | _=>true
 | .bl _ _=>true
 | .str _=>true
 | .seq _ _=>true
 | .lit _ _=>true
 | .elem _ _ _ _=>true
 | .lelem _ _=>true
 | .clo _ _ _=>true
 | .yld _=>true
 | .ifc=>true
 | .wcel _=>true
 | .ptr nm _=>match hget H nm with
  | .cells _ _=>true
  | _=>false
 | .mp nm=>match hget H nm with
  | .map _ _ _=>true
  | .qm _ _=>true
  | _=>false
 | .fmp _ _=>true
 | .ref nm k=>match hget H nm with
  | .vec v _ _ _=>Nat.beq v k
  | .fro v _ _=>Nat.beq v k
  | .vv v _ _ _ _ _ _=>Nat.beq v k
  | _=>false
 | _=>false
def aBj (H:List HO):List SV->Bool
 | []=>true
 | x::r=>oneC H x&&aBj H r
def Jd (H:List HO):SV->Bool
 | .agg _=>true
 | s=>oneC H s
def vD (H:List HO):List (Nat × SV)->Bool
 | []=>true
 | (_,x)::r=>Jd H x&&vD H r
def live (H:List HO):SV->Bool
 | .ptr nm _=>match hget H nm with
  | .cells _ _=>true
  | _=>false
 | .vptr nm k _ _ _=>match hget H nm with
  | .vec v _ _ _=>Nat.beq v k
  | _=>false
 | .elem _ _ _ _=>true
 | .lelem _ _=>true
 | .wcel _=>true
 | _=>false
def aBk (H:List HO):SV->SV
 | .ref nm ver=>match hget H nm with
  | .vec v t xs _=>bif Nat.beq v ver then .seq t xs else .any
  | .fro v t xs=>bif Nat.beq v ver then .seq t xs else .any
  | _=>.any
 | s=>s
def frcV (l:List SV) (off:Nat):SV:=
 match l,off with
 | [.val (.int .i64 n)],0=>.wcel n
 | l,off=>.lelem l off
def view (lend:Bool) (H:List HO) (s:SV):SV:=
 match s with
 | .ref nm ver=>match hget H nm with
  | .vec v t xs _=>bif lend&&Nat.beq v ver then .seq t xs else .any
  | .fro v t xs=>bif Nat.beq v ver then .seq t xs else .any
  | _=>.any
 | .ptr nm off=>match hget H nm with
  | .frc l=>frcV l off
  | .cells l _=>bif lend then .lelem (l.map (aBk H)) off else .ptr nm off
  | _=>.ptr nm off
 | .subp nm ver s=>match hget H nm with
  | .lnt v t xs=>bif lend&&(t.flat&&(Nat.beq v ver&&Nat.beq s 0)) then .seq t xs else .any
  | _=>.any
 | .mp nm=>match hget H nm with
  | .frm ks vs=>.fmp ks vs
  | _=>.mp nm
 | s=>s
def bare:SV->Bool
 | .any=>true
 | .val _=>true
 | .bl _ _=>true
 | .str _=>true
 | .seq _ _=>true
 | .elem _ _ _ _=>true
 | .lit _ l=>bareL l
 | .lelem l _=>bareL l
 | .agg l=>bareL l
 | .tup l=>bareL l
 | .clo _ a b=>bareL a&&bareL b
 | .ifc=>true
 | .wcel _=>true
 | .fmp _ l=>bareL l
 | _=>false
where bareL:List SV->Bool
 | []=>true
 | x::r=>bare x&&bareL r
def frzR (H:List HO):List SV->List HO
 | []=>H
 | .ref nm ver::r=>match hget H nm with
  | .vec v t xs _=>bif Nat.beq v ver then frzR (hset H nm (.fro v t xs)) r else frzR H r
  | _=>frzR H r
 | _::r=>frzR H r
def frz1 (H:List HO) (s:SV):List HO:=
 match s with
 | .ref nm ver=>match hget H nm with
  | .vec v t xs _=>bif Nat.beq v ver then hset H nm (.fro v t xs) else H
  | _=>H
 | .ptr nm _=>match hget H nm with
  | .cells l _=>bif bare.bareL (l.map (view false (frzR H l))) then hset (frzR H l) nm (.frc (l.map (view false (frzR H l)))) else H
  | _=>H
 | .mp nm=>match hget H nm with
  | .qm ks vs=>hset H nm (.frm ks vs)
  | _=>H
 | _=>H
def frz (H:List HO):List SV->List HO
 | []=>H
 | s::r=>frz (frz1 H s) r
def jF (H:List HO):List SV->List HO
 | []=>H
 | .agg l::r=>jF (frz H l) r
 | .tup l::r=>jF (frz H l) r
 | .clo _ a b::r=>jF (frz (frz H a) b) r
 | s::r=>jF (frz1 H s) r
def Je (lend:Bool) (H:List HO):SV->SV
 | .ref nm ver=>view lend H (.ref nm ver)
 | .ptr nm off=>view lend H (.ptr nm off)
 | .subp nm ver s=>view lend H (.subp nm ver s)
 | .mp nm=>view lend H (.mp nm)
 | .clo f a b=>.clo f (a.map (view lend H)) (b.map (view lend H))
 | .agg l=>.agg (l.map (view lend H))
 | .tup l=>.tup (l.map fun s=>match s with
   | .agg l=>.agg (l.map (view lend H))
   | s=>view lend H s)
 | s=>s
def tyOf (P:Program):Nat->TypeId->Option Ty
 | 0,_=>none
 | n+1,t=>match P.underlying t with
  | some (.int k)=>some (.int k)
  | some .bool=>some .bool
  | some .string=>some .str
  | some (.slice e)=>(tyOf P n e).map .slice
  | some (.struct fs)=>flds P n fs.toList
  | _=>none
where flds (P:Program):Nat->List Field->Option Ty
 | 0,_=>none
 | _,[]=>none
 | n+1,[f]=>tyOf P n f.type
 | n+1,f::r=>match tyOf P n f.type,flds P n r with
  | some a,some b=>some (.pair a b)
  | _,_=>none
def aggB (P:Program) (t:TypeId):Option Bool:=
 match P.underlying t with
 | some (.struct _)=>some true
 | some (.array _ _)=>some true
 | some _=>some false
 | none=>none
def jS (P:Program) (t:TypeId):Option Nat:=
 match P.info? t with
 | some i=>some i.size
 | none=>none
def eH:SV->List SV
 | .agg l=>l
 | s=>[s]
def sV (P:Program) (t:TypeId):Option (List SV):=
 match P.info? t with
 | some i=>match i.zero with
  | some z=>some (z.cells.toList.map cst)
  | none=>none
 | none=>none
structure Con where
 f:FuncId
 fresh:Bool
 cl:List SV->(SV->Prop)->Prop
 lin:Option (Nat × Bool × (List SV->HO->(SV->HO->Prop)->Prop)):=none
 own:Option (List SV->(SV->HO->Prop)->Prop):=none
 hp:Option (List SV->List HO->(SV->List HO->Prop)->Prop):=none
abbrev aR (f:FuncId) (fresh:Bool) (cl:List SV->(SV->Prop)->Prop):Con:=⟨f,fresh,cl,none,none,none⟩
abbrev Xz (f:FuncId) (pos:Nat) (same:Bool) (cl:List SV->HO->(SV->HO->Prop)->Prop):Con:=⟨f,true,fun _ _=>False,some (pos,same,cl),none,none⟩
abbrev aGb (f:FuncId) (fresh:Bool) (pos:Nat) (same:Bool) (lin:List SV->HO->(SV->HO->Prop)->Prop) (cl:List SV->(SV->Prop)->Prop):Con:=⟨f,fresh,cl,some (pos,same,lin),none,none⟩
abbrev Qb (f:FuncId) (cl:List SV->(SV->HO->Prop)->Prop):Con:=⟨f,true,fun _ _=>False,none,some cl,none⟩
abbrev Jf (f:FuncId) (cl:List SV->List HO->(SV->List HO->Prop)->Prop):Con:=⟨f,true,fun _ _=>False,none,none,some cl⟩
def Db (Γ:List Con) (f:FuncId):Option Con:=
 match Γ with
 | []=>none
 | c::r=>bif Nat.beq c.f f then some c else Db r f
def Tt {t' t:Ty} (e:t'=t) (ys:List t'.T) (K:List t.T->Prop):Prop:=Eq.rec (motive:=fun t _=>(List t.T->Prop)->Prop) (fun K=>K ys) e K
theorem Dc {t' t:Ty} (e:t'=t) (ys:List t'.T) (K:List t.T->Prop):Tt e ys K=K (e ▸ ys):=by subst e;rfl
def Bj (t t':Ty) (xs:List t.T) (ys:List t'.T):Prop:=if h:t=t' then Tt h xs (fun xs=>xs=ys) else False
def ent:SV->SV->Prop
 | _,.any=>True
 | .val (.int k a),.val (.int k' b)=>k=k'/\a=b
 | .val (.bool a),.val (.bool b)=>a=b
 | .val (.bool true),.bl q _=>q
 | .val (.bool false),.bl q _=>¬q
 | .bl p _,.bl q _=>p↔q
 | .bl p _,.val (.bool b)=>p↔b=true
 | .val v,.val v'=>v=v'
 | .str s,.str s'=>s=s'
 | .seq t xs,.seq t' ys=>Bj t t' xs ys
 | .val (.slice none 0 0),.seq _ ys=>ys= []
 | .ptr a i,.ptr b j=>a=b/\i=j
 | .ref a i,.ref b j=>a=b/\i=j
 | .mp a,.mp b=>a=b
 | .yld a,.yld b=>a=b
 | .sft a,.sft b=>a=b
 | .wcel a,.wcel b=>a=b
 | .fmp k l,.fmp k' l'=>k=k'/\entL l l'
 | .agg l,.agg l'=>entL l l'
 | .tup l,.tup l'=>entL l l'
 | .clo f a b,.clo f' a' b'=>f=f'/\entL a a'/\entL b b'
 | .lit e l,.lit e' l'=>e=e'/\entL l l'
 | .lelem l i,.lelem l' i'=>i=i'/\entL l l'
 | .ifc,.ifc=>True
 | .val .nilIface,.ifc=>True
 | _,_=>False
where entL:List SV->List SV->Prop
 | [],[]=>True
 | x::r,y::r'=>ent x y/\entL r r'
 | _,_=>False
def aBl:SV->SV
 | .val v=>.val v
 | .bl p d=>.bl p d
 | .str s=>.str s
 | _=>.any
def Tu:SV->SV
 | .agg l=>.agg (l.map aBl)
 | s=>aBl s
def yldV (H:List HO):SV->SV
 | .ref nm k=>match hget H nm with
  | .vec v t xs _=>bif Nat.beq v k&&t.flat then .seq t xs else .any
  | _=>.any
 | s=>Tu s
structure Two (A B:Prop):Prop where
 one:A
 two:B
structure Alt (A B:Prop):Prop where
 or:A\/B
theorem Alt.l {A B:Prop} (h:A):Alt A B:=⟨.inl h⟩
theorem Alt.r {A B:Prop} (h:B):Alt A B:=⟨.inr h⟩
def yS (op:BinOp) (k:IntKind) (a b:Int):Int:=
 match op with
 | .and=>k.wrap (BitVec.ofInt k.bits a&&& BitVec.ofInt k.bits b).toNat
 | .or=>k.wrap (BitVec.ofInt k.bits a ||| BitVec.ofInt k.bits b).toNat
 | .xor=>k.wrap (BitVec.ofInt k.bits a ^^^BitVec.ofInt k.bits b).toNat
 | _=>k.wrap (BitVec.ofInt k.bits a&&& ~~~(BitVec.ofInt k.bits b)).toNat
def shlI (k:IntKind) (a b:Int):Int:=k.wrap (a*2^ (min b.toNat k.bits))
def shrI (k:IntKind) (a b:Int):Int:=a.fdiv (2^ (min b.toNat k.bits))
def Qc (op:BinOp) (k:IntKind) (a b:Int) (K:SV->Prop):Prop:=
 match op with
 | .shl=>Need (0<=b) (K (.val (.int k (shlI k a b))))
 | .shr=>Need (0<=b) (K (.val (.int k (shrI k a b))))
 | _=>False
def aBm:BinOp->Bool
 | .shl=>true
 | .shr=>true
 | _=>false
def aGc (op:BinOp) (k:IntKind) (a b:Int) (K:SV->Prop):Prop:=
 match op with
 | .add=>chk k (a+b) (K (.val (.int k (a+b))))
 | .sub=>chk k (a-b) (K (.val (.int k (a-b))))
 | .mul=>chk k (a*b) (K (.val (.int k (a*b))))
 | .quo=>Alt (Need (0<=a/\0<b) (K (.val (.int k (a/b))))) (Need (¬b=0) (chk k (a.tdiv b) (K (.val (.int k (a.tdiv b))))))
 | .rem=>Alt (Need (0<=a/\0<b) (K (.val (.int k (a%b))))) (Need (¬b=0) (K (.val (.int k (a.tmod b)))))
 | .and=>K (.val (.int k (yS .and k a b)))
 | .or=>K (.val (.int k (yS .or k a b)))
 | .xor=>K (.val (.int k (yS .xor k a b)))
 | .andNot=>K (.val (.int k (yS .andNot k a b)))
 | .eql=>K (.bl (a=b) inferInstance)
 | .neq=>K (.bl (¬a=b) inferInstance)
 | .lss=>K (.bl (a<b) inferInstance)
 | .leq=>K (.bl (a<=b) inferInstance)
 | .gtr=>K (.bl (b<a) inferInstance)
 | .geq=>K (.bl (b<=a) inferInstance)
 | _=>False
def Ad (P:Program) (t:TypeId):Bool:=match P.underlying t with
 | some (.slice _)=>true
 | _=>false
def Fc (P:Program) (t:TypeId):Bool:=match P.underlying t with
 | some .bool=>true
 | _=>false
def Dd (op:BinOp) (p:Prop) (K:SV->Prop):Prop:=
 match op with
 | .eql=>∀q:Prop,(q->p)->K (.bl q (Classical.propDecidable q))
 | .neq=>∀q:Prop,(¬q->p)->K (.bl q (Classical.propDecidable q))
 | _=>False
def aGd (op:BinOp) (a b:Bx) (K:SV->Prop):Prop:=
 match op with
 | .eql=>K (.bl (a=b) inferInstance)
 | .neq=>K (.bl (¬a=b) inferInstance)
 | .add=>Need (a.length+b.length<=140737488355328) (K (.str (a++b)))
 | .lss=>K (.bl (Op.bytesLess a b=true) inferInstance)
 | .gtr=>K (.bl (¬Op.bytesLess a b=true/\¬a=b) inferInstance)
 | _=>False
def wZ (P:Program) (t:TypeId):Bool:=match P.underlying t with
 | some (.interface _)=>true
 | _=>false
def Ih:Operand->Bool
 | .const _=>true
 | _=>false
def nilT (op:BinOp) (K:SV->Prop):Prop:=
 match op with
 | .eql=>K (.val (.bool true))
 | .neq=>K (.val (.bool false))
 | _=>False
def Fd (op:BinOp) (p q:Prop) (K:SV->Prop):Prop:=
 match op with
 | .eql=>K (.bl (p↔q) Cp)
 | .neq=>K (.bl (¬(p↔q)) Cp)
 | _=>False
def Ya (a b:SV) (c:SV) (K:SV->Prop):Prop:=
 match c with
 | .val (.bool true)=>hnf a K
 | .val (.bool false)=>hnf b K
 | .bl p _=>Br p (hnf a K) (hnf b K)
 | _=>False
def Jg (k:IntKind) (a:Int):List SV->(SV->Prop)->Prop
 | [],K=>K (.val (.int k a))
 | .val (.int k' b)::r,K=>bif decide (k=k') then Jg k (max a b) r K else False
 | _,_=>False
def Jh (k:IntKind) (a:Int):List SV->(SV->Prop)->Prop
 | [],K=>K (.val (.int k a))
 | .val (.int k' b)::r,K=>bif decide (k=k') then Jh k (min a b) r K else False
 | _,_=>False
def oP (ag:Bool) (off sz:Nat) (l:List SV) (K:SV->Prop):Prop:=
 match ag with
 | true=>bif Nat.ble (off+sz) l.length then dA ((l.drop off).take sz) fun l'=>K (.agg l') else False
 | false=>bif Nat.blt off l.length then hnf (l.getD off .any) K else False
def Yb (P:Program) (t:TypeId) (H:List HO) (s:SV) (K:SV->Prop):Prop:=
 match aggB P t,jS P t with
 | some ag,some sz=>match s with
  | .ptr nm off=>match hget H nm with
   | .cells l _=>oP ag off sz l K
   | _=>False
  | .elem ty xs i off=>dfK ty fun d=>givT ty (xs.getD i d) (oP ag off sz (enc ty (xs.getD i d)) K)
  | .lelem l off=>oP ag off sz l K
  | .wcel n=>oP ag 0 sz [.val (.int .i64 n)] K
  | .sft (some i)=>match hget H 0 with
   | .yst (some _) m _=>bif !ag&&Nat.beq sz 1 then Need (i<m) (K .any) else False
   | _=>False
  | .vptr nm ver i z off=>match hget H nm with
   | .vec v ty xs _=>bif Nat.beq v ver&&Nat.beq z ty.size then dfK ty fun d=>givT ty (xs.getD i d) (oP ag off sz (enc ty (xs.getD i d)) K) else False
   | _=>False
  | _=>False
 | _,_=>False
def Yc:List SV->Option Int
 | [.val (.int _ n)]=>some n
 | _=>none
def aBn:List SV->Option Bool
 | [.val (.bool b)]=>some b
 | [.bl _ d]=>some (@decide _ d)
 | _=>none
def Yd:List SV->Option (Bx)
 | [.str s]=>some s
 | _=>none
def Tv (t:Ty):List SV->Option (List t.T)
 | [.seq t' xs]=>if h:t'=t then some (h ▸ xs) else none
 | [.val (.slice none 0 0)]=>some []
 | _=>none
def dec:(t:Ty)->List SV->Option t.T
 | .int _,l=>Yc l
 | .bool,l=>aBn l
 | .str,l=>Yd l
 | .slice t,l=>Tv t l
 | .pair a b,l=>match dec a (l.take a.size),dec b (l.drop a.size) with
  | some x,some y=>some (x,y)
  | _,_=>none
def Ye (k:IntKind):List SV->Bool
 | [.val (.int k' _)]=>decide (k=k')
 | _=>false
def tB:(t:Ty)->List SV->Bool
 | .int k,l=>Ye k l
 | .pair a b,l=>tB a (l.take a.size)&&tB b (l.drop a.size)
 | _,_=>true
def setCells (l:List SV) (off:Nat):List SV->List SV
 | []=>l
 | v::r=>setCells (l.set off v) (off+1) r
def Ii (P:Program) (t:TypeId) (H:List HO) (s x:SV) (K:List HO->Prop):Prop:=
 match s,jS P t with
 | .ptr nm off,some sz=>match hget H nm with
  | .cells l e=>bif Jd H x&&aBj H (eH x)&&Nat.beq (eH x).length sz&&Nat.ble (off+sz) l.length then dA (setCells l off (eH x)) fun l'=>dA (hset H nm (.cells l' e)) K else False
  | _=>False
 | .vptr nm ver i z off,some sz=>match hget H nm with
  | .vec v ty xs e=>bif Jd H x&&Nat.beq v ver&&Nat.beq z ty.size&&Nat.beq (eH x).length sz&&Nat.ble (off+sz) ty.size then (dfK ty fun d=>match setCells (enc ty (xs.getD i d)) off (eH x) with
   | l=>bif tB ty l then (match dec ty l with
    | some y=>dA (hset H nm (.vec v ty (xs.set i y) e)) K
    | none=>False) else False) else False
  | _=>False
 | .wcel n,some sz=>match x with
  | .val (.int .i64 m)=>bif Nat.beq sz 1 then Need (m=n) (K H) else False
  | _=>False
 | _,_=>False
def xA (H:List HO) (o:HO) (K:SV->List HO->Prop):Prop:=dA (H++ [o]) fun H'=>K (.ptr H.length 0) H'
def Ae (P:Program) (t:TypeId) (f:Nat):Option (Nat × Nat × Bool):=
 match P.underlying t with
 | some (.struct fs)=>match fs[f]? with
  | some fd=>match jS P fd.type,aggB P fd.type with
   | some sz,some ag=>some (fd.offset,sz,ag)
   | _,_=>none
  | none=>none
 | _=>none
def fZ (P:Program) (t:TypeId):Option TypeId:=
 match P.underlying t with
 | some (.slice e)=>some e
 | _=>none
def cntK:List SV->Int->(Int->Prop)->Prop
 | [],n,K=>K n
 | _::r,n,K=>cntK r (n+1) K
theorem Qd:∀(l:List SV) (n:Int) (K:Int->Prop),cntK l n K=K (n+(l.length:Int))
 | [],n,K=>by simp[cntK]
 | _::r,n,K=>by simp only[cntK,bS];rw[Qd r];congr 1;omega
def cntW (es:Nat):List SV->Nat->Int->(Int->Prop)->Prop
 | [],_,n,K=>K n
 | _::r,0,n,K=>cntW es r (es-1) (n+1) K
 | _::r,k+1,n,K=>cntW es r k n K
theorem Qe {es:Nat} (he:0<es):∀(l:List SV) (k m:Nat) (n:Int) (K:Int->Prop),l.length=m*es+k->k<es->cntW es l k n K=K (n+m)
 | [],k,m,n,K,h,hk=>by
  have:m=0:=by
   rcases dB m with h1 | h1
   ·exact h1
   have:=jY h1 (aN es);simp at h this;omega
  subst this;simp[cntW]
 | _::r,0,m,n,K,h,hk=>by
  obtain ⟨j,rfl⟩:∃j,m=j+1:=by
   rcases dB m with h1 | h1
   ·subst h1;simp at h
   exact ⟨m-1,om⟩
  simp only[cntW];rw[Qe he r (es-1) j (n+1) K (by rw[cL] at h;simp at h;omega) om];congr 1;omega
 | _::r,k+1,m,n,K,h,hk=>by
  simp only[cntW];exact Qe he r k m n K (by simp at h;omega) om
def Qf (P:Program) (t:TypeId) (H:List HO) (x i:SV) (K:SV->Prop):Prop:=
 match fZ P t,i with
 | some e,.val (.int _ n)=>match jS P e with
  | some sz=>match x with
   | .seq ty xs=>bif Nat.beq sz ty.size then Need (0<=n/\n<xs.length) (Ix n fun i=>K (.elem ty xs i 0)) else False
   | .lit es l=>bif Nat.beq sz es then cntK l 0 fun m=>Need (0<=n/\n*(es:Int)<m) (K (.lelem l (n.toNat*es))) else False
   | .sft none=>match hget H 0 with
    | .yst (some _) m _=>bif Nat.beq sz 1 then Need (0<=n/\n<(m:Int)) (Ix n fun i=>K (.sft (some i))) else False
    | _=>False
   | .ref nm ver=>match hget H nm with
    | .vec v ty xs _=>bif Nat.beq v ver&&Nat.beq sz ty.size then Need (0<=n/\n<xs.length) (Ix n fun i=>K (.vptr nm ver i sz 0)) else False
    | .fro v ty xs=>bif Nat.beq v ver&&Nat.beq sz ty.size then Need (0<=n/\n<xs.length) (Ix n fun i=>K (.elem ty xs i 0)) else False
    | _=>False
   | .part nm ver a b z=>match hget H nm with
    | .vec v ty xs _=>bif Nat.beq v ver&&(Nat.beq sz ty.size&&Nat.beq z sz) then Need (0<=n/\n<((b-a:Nat):Int)) (Ix n fun i=>K (.vptr nm v (a+i) sz 0)) else False
    | _=>False
   | _=>False
  | none=>False
 | _,_=>False
def aMq (P:Program) (t:TypeId):Option (Nat × TypeId):=
 match P.underlying t with
 | some (.array n e)=>some (n,e)
 | _=>none
def Yf (P:Program) (t:TypeId) (H:List HO) (x i:SV) (K:SV->Prop):Prop:=
 match aMq P t,x,i with
 | some (n,e),.ptr nm off,.val (.int _ j)=>match jS P e with
  | some sz=>bif live H (.ptr nm off) then Need (0<=j/\j<n) (Ix j fun j=>K (.ptr nm (off+j*sz))) else False
  | none=>False
 | _,_,_=>False
def aBo (H:List HO) (x:SV) (K:SV->Prop):Prop:=
 match x with
 | .seq _ xs=>Giv (xs.length<=140737488355328) (K (.val (.int .i64 xs.length)))
 | .str s=>Giv (s.length<=140737488355328) (K (.val (.int .i64 s.length)))
 | .lit es l=>bif Nat.ble l.length 1000 then (bif Nat.beq es 1 then cntK l 0 fun m=>K (.val (.int .i64 m)) else bif Nat.blt 0 es then cntW es l 0 0 fun m=>K (.val (.int .i64 m)) else False) else False
 | .val (.slice none 0 0)=>K (.val (.int .i64 0))
 | .sft none=>match hget H 0 with
  | .yst (some _) m _=>Giv (m<=140737488355328) (K (.val (.int .i64 m)))
  | _=>False
 | .part nm ver i j _=>match hget H nm with
  | .vec v _ xs _=>bif Nat.beq v ver then K (.val (.int .i64 ((j-i:Nat):Int))) else False
  | _=>False
 | .ref nm ver=>match hget H nm with
  | .vec v _ xs _=>bif Nat.beq v ver then Giv (xs.length<=140737488355328) (K (.val (.int .i64 xs.length))) else False
  | .fro v _ xs=>bif Nat.beq v ver then Giv (xs.length<=140737488355328) (K (.val (.int .i64 xs.length))) else False
  | _=>False
 | _=>False
def Qg (P:Program) (fs:List Field):Option (List (Nat × Nat)):=
 match fs with
 | []=>some []
 | f::r=>match jS P f.type,Qg P r with
  | some sz,some l=>some ((f.offset,sz)::l)
  | _,_=>none
def Fe (pl:List (Nat × Nat)) (cells:List SV):List (Nat × SV)->Option (List SV)
 | []=>some cells
 | (i,v)::r=>match pl[i]? with
  | some (off,sz)=>bif Nat.beq (eH v).length sz&&Nat.ble (off+sz) cells.length then Fe pl (setCells cells off (eH v)) r else none
  | none=>none
def Qh (P:Program) (t:TypeId) (parts:List (Nat × SV)) (K:SV->Prop):Prop:=
 match P.underlying t,sV P t with
 | some (.struct fs),some z=>match Qg P fs.toList with
  | some pl=>match Fe pl z parts with
   | some l=>hnfL l fun l'=>K (.agg l')
   | none=>False
  | none=>False
 | _,_=>False
def Af (sz:Nat):Nat->Nat->List (Nat × Nat)
 | 0,_=>[]
 | n+1,off=>(off,sz)::Af sz n (off+sz)
def Yg (P:Program) (t:TypeId) (parts:List (Nat × SV)) (K:SV->Prop):Prop:=
 match P.underlying t,sV P t with
 | some (.array n e),some z=>match jS P e with
  | some sz=>match Fe (Af sz n 0) z parts with
   | some l=>hnfL l fun l'=>K (.agg l')
   | none=>False
  | none=>False
 | _,_=>False
def aBp (P:Program) (t:TypeId):Bool:=match P.underlying t with
 | some (.array _ _)=>true
 | _=>false
def Ji (t:Ty):List (Nat × SV)->Nat->Option (List t.T)
 | [],_=>some []
 | (i,v)::r,n=>bif Nat.beq i n&&Nat.beq (eH v).length t.size&&tB t (eH v) then (match dec t (eH v),Ji t r (n+1) with
  | some x,some l=>some (x::l)
  | _,_=>none) else none
def Jj:List (Nat × SV)->Nat->Option (List SV)
 | [],_=>some []
 | (i,v)::r,n=>bif Nat.beq i n&&Nat.beq (eH v).length 1 then (match Jj r (n+1) with
  | some l=>some (v::l)
  | none=>none) else none
def Jk {β:Sort _} (n:Nat) (k:Nat->β):β:=match n with
 | 0=>k 0
 | m+1=>k (m+1)
theorem Ff {β:Sort _} (n:Nat) (k:Nat->β):Jk n k=k n:=by cases n<;>rfl
def Jl (sz:Nat):List (Nat × SV)->Nat->Option (List SV)
 | [],_=>some []
 | (i,v)::r,n=>match v with
  | .agg l=>bif Nat.beq i n&&Nat.beq l.length sz then (match Jl sz r (n+1) with
   | some m=>some (l++m)
   | none=>none) else none
  | _=>none
def aGe (P:Program) (t:TypeId):Bool:=
 match P.info? t with
 | some i=>i.zero.isSome
 | none=>false
def Yh:List SV->Bool
 | []=>true
 | .agg _:: _=>false
 | _::r=>Yh r
structure Own (A B:Prop):Prop where
 or:A\/B
theorem Own.l {A B:Prop} (h:A):Own A B:=⟨.inl h⟩
theorem Own.r {A B:Prop} (h:B):Own A B:=⟨.inr h⟩
def tC (P:Program) (t:TypeId) (len:Nat) (parts:List (Nat × SV)) (H:List HO) (K:SV->List HO->Prop):Prop:=
 bif Nat.beq parts.length len&&Nat.ble len 1000 then (match fZ P t with
  | some e=>match jS P e with
   | some sz=>bif Nat.blt 0 sz&&Nat.ble sz 1000&&aGe P e then (match tyOf P 24 e with
    | some ty=>bif Nat.beq sz ty.size then (match parts with
     | []=>dA (H++ [.vec 1 ty [] e]) fun H'=>K (.ref H.length 1) H'
     | _=>match Ji ty parts 0 with
      | some l=>dA l fun l'=>Own (K (.seq ty l') H) (dA (H++ [.vec 1 ty l' e]) fun H'=>K (.ref H.length 1) H')
      | none=>False) else False
    | none=>bif Nat.blt 0 len then (bif Nat.beq sz 1 then (match Jj parts 0 with
     | some l=>bif Yh l then hnfL l fun l'=>K (.lit 1 l') H else False
     | none=>False) else (match Jl sz parts 0 with
     | some l=>hnfL l fun l'=>Jk sz fun z=>K (.lit z l') H
     | none=>False)) else False) else False
   | none=>False
  | none=>False) else False
def fE (l:List Int):Bx:=l.map fun n=>UInt8.ofNat n.toNat
def Yi (P:Program) (H:List HO) (s d:TypeId) (x:SV) (K:SV->Prop):Prop:=
 match P.underlying s,P.underlying d,x with
 | some (.int _),some (.int k),.val (.int _ n)=>chk k n (K (.val (.int k n)))
 | some .string,some .string,.str s=>K (.str s)
 | some (.slice e),some .string,x=>(match P.underlying e,view true H x with
  | some (.int .u8),.seq (.int .u8) xs=>K (.str (fE xs))
  | _,_=>False)
 | _,_,_=>False
def Jm (H:List HO) (t:Ty) (s:SV):Option (List t.T):=
 match view true H s with
 | .seq t' ys=>if h:t'=t then some (h ▸ ys) else none
 | .val (.slice none 0 0)=>some []
 | _=>none
def De (P:Program) (t:TypeId) (H:List HO) (s x:SV) (K:SV->List HO->Prop):Prop:=
 match fZ P t with
 | some e=>match tyOf P 24 e,P.info? e with
  | some ty,some i=>bif Nat.beq i.size ty.size&&Nat.blt 0 i.bytes&&(match i.zero with | some z=>Nat.beq z.cells.size ty.size | none=>false) then (match Jm H ty x with
   | some ys=>(match s with
    | .val (.slice none 0 0)=>Need (ys.length*i.bytes<=140737488355328) (dA (H++ [.vec 1 ty ys e]) fun H'=>K (.ref H.length 1) H')
    | .ref nm ver=>match hget H nm with
     | .vec v ty' xs e'=>bif Nat.beq v ver&&Nat.beq e e' then (if h:ty'=ty then
       Need ((List.length (α:=ty'.T) xs+ys.length)*i.bytes<=140737488355328) (dA (hset H nm (.vec (v+1) ty (List.append (α:=ty.T) (h ▸ xs) ys) e)) fun H'=>K (.ref nm (v+1)) H') else False) else False
     | _=>False
    | _=>False)
   | none=>False) else False
  | _,_=>False
 | none=>False
def yT (P:Program) (t u:TypeId) (H:List HO) (s x:SV) (K:SV->List HO->Prop):Prop:=
 match P.underlying u,s,x with
 | some (.int _),.val (.slice none 0 0),.val (.int _ n)=>match fZ P t with
  | some e=>match tyOf P 24 e,P.info? e with
   | some ty,some i=>bif Nat.beq i.size ty.size&&Nat.blt 0 i.bytes&&Nat.ble i.bytes 1024&&(match i.zero with | some z=>Nat.beq z.cells.size ty.size | none=>false) then
     Need (1<=n/\n<=137438953472) (dA (H++ [.vec 1 ty [] e]) fun H'=>K (.wide H.length 1) H') else False
   | _,_=>False
  | none=>False
 | _,_,_=>False
def Jn (bytes n:Nat) (C:Prop):Prop:=bif Nat.ble bytes 8 then Need (n<=17592186044416) C else bif Nat.ble bytes 1024 then Need (n<=137438953472) C else False
theorem Cf {bytes n:Nat} {C:Prop} (h:Jn bytes n C):Need (n*bytes<=140737488355328) C:=by
 unfold Jn at h;cases hb:Nat.ble bytes 8 with
 | true=>
  rw[hb] at h;have h1:=fF hb;have h2:=h.ok;exact ⟨bL (jY h2 h1) de,h.go⟩
 | false=>
  rw[hb] at h;simp only[cD] at h;cases hc:Nat.ble bytes 1024 with
  | true=>
   rw[hc] at h;have h1:=fF hc;have h2:=h.ok;exact ⟨bL (jY h2 h1) de,h.go⟩
  | false=>rw[hc] at h;cases h
def aBq (H:List HO) (t:Ty) (s:SV) (K:List t.T->Prop):Prop:=
 match view true H s with
 | .seq t' ys=>if h:t'=t then Tt h ys K else False
 | .val (.slice none 0 0)=>K []
 | _=>False
def Qi (P:Program) (t:TypeId) (H:List HO) (s x:SV) (K:SV->List HO->Prop):Prop:=
 match fZ P t with
 | some e=>match tyOf P 24 e,P.info? e with
  | some ty,some i=>bif Nat.beq i.size ty.size&&Nat.blt 0 i.bytes&&(match i.zero with | some z=>Nat.beq z.cells.size ty.size | none=>false) then aBq H ty x fun ys=>(match s with
    | .val (.slice none 0 0)=>Jn i.bytes ys.length (dA (H++ [.vec 1 ty ys e]) fun H'=>K (.ref H.length 1) H')
    | .ref nm ver=>match hget H nm with
     | .vec v ty' xs e'=>bif Nat.beq v ver&&Nat.beq e e' then (if h:ty'=ty then Tt h xs fun xs=>
       Jn i.bytes (xs.length+ys.length) (dA (hset H nm (.vec (v+1) ty (xs++ys) e)) fun H'=>K (.ref nm (v+1)) H') else False) else False
     | _=>False
    | _=>False) else False
  | _,_=>False
 | none=>False
def cJ (s:Bx):List Int:=s.map fun b=>(b.toNat:Int)
def Qj (P:Program) (t u:TypeId) (H:List HO) (s x:SV) (K:SV->List HO->Prop):Prop:=
 match P.underlying u,s,x with
 | some .string,.ref nm k,.str bs=>match fZ P t with
  | some e=>match P.info? e,hget H nm with
   | some i,.vec j (.int .u8) xs e'=>bif Nat.beq j k&&Nat.beq e e'&&Nat.beq i.size 1&&Nat.beq i.bytes 1&&(match i.zero with | some (.int .u8 n)=>decide (n=0) | _=>false) then
     Need (List.length (α:=Int) xs+bs.length<=140737488355328) (dA (hset H nm (.vec (j+1) (.int .u8) (List.append (α:=Int) xs (cJ bs)) e)) fun H'=>K (.ref nm (j+1)) H') else False
   | _,_=>False
  | none=>False
 | _,_,_=>False
def aMr:SV->Bool
 | .str _=>true
 | _=>false
def aBr (P:Program) (t:TypeId) (H:List HO) (s x:SV) (K:SV->List HO->Prop):Prop:=False
def Qk:SV->Bool
 | .part _ _ _ _ _=>true
 | .lim _ _ _ _=>true
 | _=>false
def aBs (P:Program) (t:TypeId) (H:List HO) (x:SV) (K:List HO->Prop):Prop:=False
def aGf (H:List HO) (s:SV) (K:SV->List HO->Prop):Prop:=False
theorem Nt {H:List HO} {t:Ty} {s:SV} {K:List t.T->Prop} (h:aBq H t s K):∃ys,Jm H t s=some ys/\K ys:=by
 unfold aBq at h;unfold Jm;split at h
 ·split at h
  ·rename_i e;rw[Dc] at h;exact ⟨_,by simp[*],h⟩
  cases h
 ·exact ⟨[],by simp[*],h⟩
 cases h
theorem Yj {P:Program} {t:TypeId} {H:List HO} {s x:SV} {K:SV->List HO->Prop} (h:Qi P t H s x K):De P t H s x K:=by
 unfold Qi at h;unfold De;cases he:fZ P t with
 | none=>rw[he] at h;cases h
 | some e=>
  rw[he] at h;simp only at h ⊢;cases h1:tyOf P 24 e with
  | none=>rw[h1] at h;cases h
  | some ty=>
  cases h2:P.info? e with
  | none=>rw[h1,h2] at h;cases h
  | some i=>
  rw[h1,h2] at h;simp only at h ⊢;generalize (Nat.beq i.size ty.size&&Nat.blt 0 i.bytes&&(match i.zero with | some z=>Nat.beq z.cells.size ty.size | none=>false))=c at h ⊢;cases c with
  | false=>cases h
  | true=>
  simp only[bR] at h ⊢;obtain ⟨ys,h3,h4⟩:=Nt h;rw[h3];simp only;cases s with
  | val v=>
   cases v with
   | slice a n c=>
    cases a<;>cases n<;>cases c<;>first | exact Cf h4 | exact h4.elim
   | _=>cases h4
  | ref nm ver=>
   simp only at h4 ⊢;cases ho:hget H nm with
   | vec v ty' xs e'=>
    rw[ho] at h4;simp only at h4 ⊢;cases hb2:(Nat.beq v ver&&Nat.beq e e') with
    | false=>rw[hb2] at h4;cases h4
    | true=>
     rw[hb2] at h4;simp only[bR] at h4 ⊢;by_cases e1:ty'=ty
     ·subst e1;simp only[dite_true] at h4 ⊢;rw[Dc] at h4;exact Cf h4
     rw[Ex e1] at h4;cases h4
   | _=>rw[ho] at h4;cases h4
  | _=>cases h4
def Yk (P:Program) (t:TypeId) (H:List HO) (n c:SV) (K:SV->List HO->Prop):Prop:=
 match fZ P t,n,c with
 | some e,.val (.int _ n),.val (.int _ c)=>match tyOf P 24 e,P.info? e,sV P e with
  | some ty,some i,some z=>bif Nat.beq i.size ty.size&&tB ty z&&Nat.beq z.length ty.size then (match dec ty z with
    | some x0=>Need (0<=n/\n<=c/\c<=140737488355328/\c*(i.bytes:Int)<=140737488355328) (dA (H++ [.vec 1 ty (List.replicate n.toNat x0) e]) fun H'=>K (.ref H.length 1) H')
    | none=>False) else False
  | _,_,_=>False
 | _,_,_=>False
def plain:SV->Bool
 | .val _=>true
 | .bl _ _=>true
 | .str _=>true
 | .ifc=>true
 | .agg l=>plainL l
 | .tup l=>plainL l
 | _=>false
where plainL:List SV->Bool
 | []=>true
 | x::r=>plain x&&plainL r
def aGg (pos:Nat) (same:Bool) (cl:List SV->HO->(SV->HO->Prop)->Prop) (args:List SV) (H:List HO) (K:SV->List HO->Prop):Prop:=
 match args.getD pos .any with
 | .ref nm ver=>match hget H nm with
  | .vec v t xs e=>bif Nat.beq v ver&&t.flat then
    hnfL ((args.set pos .any).map (Je true (hset H nm .dead))) fun as=>bif bare.bareL as then cl as (.vec 1 t xs e) fun r o=>hnf r fun r=>(match o with
     | .vec _ t' ys e'=>bif Nat.beq e e' then (if h:t'=t then Tt h ys fun ys=>dA (hset H nm (.vec (bif same then v else v+1) t ys e)) fun H'=>(match r with
       | .ref 0 1=>K (.ref nm (bif same then v else v+1)) H'
       | r=>bif plain r then K r H' else False) else False) else False
     | _=>False) else False
   else False
  | _=>False
 | _=>False
def aBt (n:Nat):SV->SV
 | .ref 0 1=>.ref n 1
 | s=>s
def renm (n:Nat):SV->SV
 | .tup l=>.tup (l.map (aBt n))
 | s=>aBt n s
def okR1:SV->Bool
 | .ref 0 1=>true
 | s=>plain s
def okR:SV->Bool
 | .tup l=>l.all okR1
 | s=>okR1 s
def aGh (cl:List SV->(SV->HO->Prop)->Prop) (args:List SV) (H:List HO) (K:SV->List HO->Prop):Prop:=
 hnfL (args.map (Je true H)) fun as=>bif bare.bareL as then cl as fun r o=>hnf r fun r=>(match o with
  | .vec _ t ys e=>bif t.flat&&okR r then dA (H++ [.vec 1 t ys e]) fun H'=>hnf (renm H.length r) fun r'=>K r' H' else False
  | _=>False) else False
def Ql (fresh:Bool) (cl:List SV->(SV->Prop)->Prop) (args:List SV) (H:List HO) (K:SV->List HO->Prop):Prop:=
 bif fresh then hnfL (args.map (Je true H)) fun as=>bif bare.bareL as then cl as fun r=>hnf r fun r'=>bif bare r' then K r' H else False else False
 else dA (jF H args) fun H'=>hnfL (args.map (Je false H')) fun as=>bif bare.bareL as then cl as fun r=>hnf r fun r'=>bif bare r' then K r' H' else False else False
def aMs:SV->Bool
 | .ref _ _=>true
 | _=>false
def Yl (Γ:List Con) (f:FuncId) (args:List SV) (H:List HO) (K:SV->List HO->Prop):Prop:=
 match Db Γ f with
 | some c=>match c.hp,c.lin,c.own with
  | some cl,_,_=>cl args H fun r H'=>hnf r fun r=>dA H' fun H'=>K r H'
  | none,some (pos,same,cl),_=>bif aMs (args.getD pos .any) then aGg pos same cl args H K else Ql c.fresh c.cl args H K
  | none,none,some cl=>aGh cl args H K
  | none,none,none=>Ql c.fresh c.cl args H K
 | none=>False
def vY (t:Ty) (xs:List t.T) (lo hi:Option SV) (K:SV->Prop):Prop:=
 match lo,hi with
 | none,none=>K (.seq t xs)
 | some (.val (.int _ i)),none=>Need (0<=i/\i<=xs.length) (Ix i fun i=>K (.seq t (xs.drop i)))
 | none,some (.val (.int _ j))=>Need (0<=j/\j<=xs.length) (Ix j fun j=>K (.seq t (xs.take j)))
 | some (.val (.int _ i)),some (.val (.int _ j))=>Need (0<=i/\i<=j/\j<=xs.length) (Ix i fun i=>Ix j fun j=>K (.seq t ((xs.take j).drop i)))
 | _,_=>False
def bE (s:Bx) (i:Nat):Int:=((s.getD i 0).toNat:Int)
def Jo (s:Bx) (lo hi:Option SV) (K:SV->Prop):Prop:=
 match lo,hi with
 | none,none=>K (.str s)
 | some (.val (.int _ i)),none=>Need (0<=i/\i<=s.length) (Ix i fun i=>K (.str (s.drop i)))
 | none,some (.val (.int _ j))=>Need (0<=j/\j<=s.length) (Ix j fun j=>K (.str (s.take j)))
 | some (.val (.int _ i)),some (.val (.int _ j))=>Need (0<=i/\i<=j/\j<=s.length) (Ix i fun i=>Ix j fun j=>K (.str ((s.take j).drop i)))
 | _,_=>False
def aBu (n:Nat) (lo hi:Option SV) (K:Nat->Nat->Prop):Prop:=
 match lo,hi with
 | none,none=>K 0 n
 | some (.val (.int _ i)),none=>Need (0<=i/\i<=n) (Ix i fun i=>K i n)
 | none,some (.val (.int _ j))=>Need (0<=j/\j<=n) (Ix j fun j=>K 0 j)
 | some (.val (.int _ i)),some (.val (.int _ j))=>Need (0<=i/\i<=j/\j<=n) (Ix i fun i=>Ix j fun j=>K i j)
 | _,_=>False
def aBv (j n:Nat) (lo hi:Option SV) (K:Nat->Nat->Prop):Prop:=
 match lo,hi with
 | some (.val (.int _ a)),some (.val (.int _ b))=>Need (0<=a/\a<=b/\b<=n) (Ix a fun a=>Ix b fun b=>K a b)
 | _,_=>False
def aGi (P:Program) (t:TypeId) (H:List HO) (x y:SV) (K:SV->List HO->Prop):Prop:=False
def Tw (P:Program) (t:TypeId) (H:List HO) (s:SV) (lo hi mx:Option SV) (K:SV->List HO->Prop):Prop:=False
def Qm (P:Program) (t:TypeId) (H:List HO) (s:SV) (lo hi:Option SV) (K:SV->List HO->Prop):Prop:=
 match P.underlying t with
 | some (.slice e)=>match jS P e with
  | some sz=>match s with
   | .seq ty xs=>bif Nat.beq sz ty.size then vY ty xs lo hi fun v=>K v H else False
   | .val (.slice none 0 0)=>match lo,hi with
    | none,some (.val (.int _ j))=>Need (0<=j/\j<=0) (K (.val (.slice none 0 0)) H)
    | _,_=>match tyOf P 24 e with
     | some ty=>bif Nat.beq sz ty.size then vY ty [] lo hi fun v=>K v H else False
     | none=>False
   | .part nm ver 0 j z=>(match hget H nm with
    | .vec v ty xs _=>bif Nat.beq v ver&&(Nat.beq sz ty.size&&Nat.beq z ty.size) then aBv j xs.length lo hi fun a b=>K (.part nm v a b z) H else False
    | _=>False)
   | .wide nm ver=>match lo,hi with
    | none,some (.val (.int _ j))=>(match hget H nm with
     | .vec v ty [] _=>bif Nat.beq v ver&&Nat.beq sz ty.size then Need (0<=j/\j<=0) (K (.ref nm ver) H) else False
     | _=>False)
    | _,_=>False
   | .ref nm ver=>Own (Own (dA (frz1 H (.ref nm ver)) fun H'=>match view false H' (.ref nm ver) with
    | .seq ty xs=>bif Nat.beq sz ty.size then vY ty xs lo hi fun v=>K v H' else False
    | _=>False) (match lo,hi with
     | none,some (.val (.int _ j))=>(match hget H nm with
      | .vec v ty xs e'=>bif Nat.beq v ver&&Nat.beq sz ty.size then Need (0<=j/\j<=xs.length) (Ix j fun j=>dA (hset H nm (.vec (v+1) ty (xs.take j) e')) fun H'=>K (.ref nm (v+1)) H') else False
      | _=>False)
     | _,_=>False)) (match hget H nm with
      | .vec v ty xs _=>bif Nat.beq v ver&&Nat.beq sz ty.size then aBu xs.length lo hi fun i j=>K (.part nm v i j sz) H else False
      | _=>False)
   | _=>False
  | none=>False
 | some .string=>match s with
  | .str s=>Jo s lo hi fun v=>K v H
  | _=>False
 | _=>False
def aBw (P:Program) (t:TypeId) (x:Operand):Option (Ty × TypeId):=
 match x with
 | .const (.slice none 0 0)=>match fZ P t with
  | some e=>match tyOf P 24 e with
   | some ty=>some (ty,e)
   | none=>none
  | none=>none
 | _=>none
def aBx (P:Program) (e:TypeId):Option (Ty × TypeId):=
 match fZ P e with
 | some ei=>match tyOf P 24 ei with
  | some t=>bif t.flat then some (t,ei) else none
  | none=>none
 | none=>none
def nilZ (P:Program) (e:TypeId):Bool:=
 match P.info? e with
 | some i=>match i.zero with
  | some (.slice none 0 0)=>Nat.beq i.size 1
  | _=>false
 | none=>false
def Gv (P:Program) (t:TypeId) (n c:SV) (K:Int->Ty->TypeId->TypeId->Prop):Prop:=
 match fZ P t,n,c with
 | some e,.val (.int _ n),.val (.int _ c)=>match aBx P e,P.info? e with
  | some (ty,ei),some i=>bif nilZ P e then Need (0<=n/\n<=c/\c<=140737488355328/\c*(i.bytes:Int)<=140737488355328) (K n ty e ei) else False
  | _,_=>False
 | _,_,_=>False
def Qn (P:Program) (t:TypeId):Bool:=match fZ P t with
 | some e=>match aBx P e with
  | some _=>true
  | none=>false
 | none=>false
def isVV (H:List HO) (s:SV):Bool:=match s with
 | .ref nm _=>(match hget H nm with
  | .vv _ _ _ _ _ _ _=>true
  | _=>false)
 | .vptr nm _ _ _ _=>(match hget H nm with
  | .vv _ _ _ _ _ _ _=>true
  | _=>false)
 | .sub _ _ _ _=>true
 | _=>false
def Ym (P:Program) (t:TypeId) (H:List HO) (x i:SV) (K:SV->Prop):Prop:=
 match fZ P t,x,i with
 | some e,.ref nm k,.val (.int _ n)=>match jS P e,hget H nm with
  | some sz,.vv v _ _ xss _ _ _=>bif Nat.beq sz 1&&Nat.beq v k then Need (0<=n/\n<xss.length) (Ix n fun i=>K (.vptr nm k i 1 0)) else False
  | _,_=>False
 | _,_,_=>False
def aGj (P:Program) (t:TypeId) (H:List HO) (x:SV) (K:SV->Prop):Prop:=
 match x with
 | .vptr nm k i 1 0=>match hget H nm,aggB P t,jS P t with
  | .vv v s _ _ none _ _,some false,some sz=>bif Nat.beq v k&&Nat.beq sz 1 then K (.sub nm k s i) else False
  | _,_,_=>False
 | _=>False
def Qo (P:Program) (t:TypeId) (H:List HO) (x y:SV) (K:SV->List HO->Prop):Prop:=
 match fZ P t,x with
 | some e,.sub nm k s i=>match hget H nm,P.info? e with
  | .vv v s' ty xss none eo ei,some inf=>bif Nat.beq v k&&Nat.beq e ei&&Nat.beq inf.size ty.size&&Nat.blt 0 inf.bytes&&(match inf.zero with | some z=>Nat.beq z.cells.size ty.size | none=>false) then
    Need (i<xss.length/\s=s') (aBq H ty y fun ys=>Jn inf.bytes ((xss.getD i []).length+ys.length)
     (dA (hset H nm (.vv v (s+1) ty xss (some (i,xss.getD i []++ys)) eo ei)) fun H'=>K (.subp nm v (s+1)) H')) else False
  | _,_=>False
 | _,_=>False
def Yn (P:Program) (t:TypeId) (H:List HO) (x y:SV) (K:List HO->Prop):Prop:=
 match x,y with
 | .vptr nm k i 1 0,.subp nm' k' s'=>match hget H nm,jS P t with
  | .vv v s ty xss (some (j,ys)) eo ei,some sz=>bif Nat.beq v k&&Nat.beq nm nm'&&Nat.beq v k'&&Nat.beq sz 1 then
    Need (j=i/\s=s') (Need (ys.length<=140737488355328) (dA (hset H nm (.vv v (s+1) ty (xss.set i ys) none eo ei)) fun H'=>K H')) else False
  | _,_=>False
 | _,_=>False
def lenV (H:List HO) (x:SV) (K:SV->Prop):Prop:=
 match x with
 | .ref nm k=>match hget H nm with
  | .vv v _ _ xss _ _ _=>bif Nat.beq v k then Giv (xss.length<=140737488355328) (K (.val (.int .i64 xss.length))) else False
  | _=>False
 | _=>False
structure NextVC (fin:Prop) (more:Prop):Prop where
 fin:fin
 more:more
structure Has {α:Type} (p:α->Prop) (C:α->Prop):Prop where
 ex:∃e,p e/\C e
theorem Alt.h {α:Type} {p C:α->Prop} {D:Prop} {r:α} (k:C r) (h:p r:=by first | with_reducible assumption | assumption):Alt (Has p C) D:=.l ⟨⟨r,h,k⟩⟩
def aBy (P:Program) (t:TypeId):Option SV:=
 match P.info? t with
 | some i=>match i.zero with
  | some (.agg _)=>none
  | some v=>some (cst v)
  | none=>none
 | none=>none
def intF (P:Program) (f:Field) (off:Nat) (k:IntKind):Bool:=Nat.beq f.offset off&&(match P.underlying f.type with
 | some (.int q)=>decide (q=k)
 | _=>false)
def xB (P:Program) (t:TypeId):Option TypeId:=
 match P.underlying t with
 | some (.map kt et)=>match P.underlying kt,P.underlying et with
  | some (.struct fs),some (.func _ _ _)=>(match fs.toList,aBy P et with
   | [f,g],some _=>bif intF P f 0 .i64&&intF P g 1 .i64 then some kt else none
   | _,_=>none)
  | _,_=>none
 | _=>none
structure KeyOK (P:Program) (kt:TypeId):Prop where
 key:P.keyTypeAt 2 kt=true
 tile:P.tiled 2 kt=true
 typ:P.keyType kt=true
 cells:P.cellsOf kt=2
 types:0<P.types.size
def findP:List (Int × Int)->List SV->Int->Int->Option SV
 | k::r,v::r',a,b=>if k.1=a/\k.2=b then some v else findP r r' a b
 | _,_,_,_=>none
def hasP:List (Int × Int)->Int->Int->Bool
 | [],_,_=>false
 | k::r,a,b=>(decide (k.1=a)&&decide (k.2=b)) || hasP r a b
def setP:List (Int × Int)->List SV->Int->Int->SV->List SV
 | k::r,v::r',a,b,x=>bif decide (k.1=a)&&decide (k.2=b) then x::r' else v::setP r r' a b x
 | _,vs,_,_,_=>vs
def Tx (P:Program) (t:TypeId) (H:List HO) (K:SV->List HO->Prop):Prop:=False
def Fg (P:Program) (t:TypeId) (H:List HO) (K:SV->List HO->Prop):Prop:=
 match xB P t with
 | some _=>dA (H++ [.qm [] []]) fun H'=>K (.mp H.length) H'
 | none=>Tx P t H K
def aBz (P:Program) (t:TypeId) (ok:Bool) (H:List HO) (x i:SV) (K:SV->Prop):Prop:=False
def aMt (ks:List (Int × Int)) (vs:List SV) (a b:Int) (ok:Bool) (K:SV->Prop):Prop:=
 Alt (Need (findP ks vs a b=none) (match ok with
  | true=>K (.tup [.any,.val (.bool false)])
  | false=>K .any)) (Has (fun v=>findP ks vs a b=some v) fun v=>match ok with
  | true=>hnf v fun v=>K (.tup [v,.val (.bool true)])
  | false=>hnf v K)
def Jp (P:Program) (t:TypeId) (ok:Bool) (H:List HO) (x i:SV) (K:SV->Prop):Prop:=
 match x,i with
 | .fmp ks vs,.agg [.val (.int .i64 a),.val (.int .i64 b)]=>(match xB P t with
  | some kt=>Need (KeyOK P kt) (aMt ks vs a b ok K)
  | none=>False)
 | x,i=>aBz P t ok H x i K
def Jq (P:Program) (t:TypeId) (H:List HO) (x i y:SV) (K:List HO->Prop):Prop:=False
def yU (P:Program) (t:TypeId) (H:List HO) (x i y:SV) (K:List HO->Prop):Prop:=
 match x,i with
 | .mp nm,.agg [.val (.int .i64 a),.val (.int .i64 b)]=>(match xB P t,hget H nm with
  | some kt,.qm ks vs=>bif bare y then Need (KeyOK P kt) (bif hasP ks a b then dA (setP ks vs a b y) fun vs'=>dA (hset H nm (.qm ks vs')) K
    else Need (ks.length<140737488355328) <| dA (ks++ [(a,b)]) fun ks'=>dA (vs++ [y]) fun vs'=>dA (hset H nm (.qm ks' vs')) K) else False
  | _,_=>False)
 | x,i=>Jq P t H x i y K
def Cg (P:Program) (t:TypeId) (H:List HO) (x i:SV) (K:SV->List HO->Prop):Prop:=
 match x,i with
 | .mp nm,.agg [.val (.int .i64 a),.val (.int .i64 b)]=>(match xB P t,hget H nm with
  | some kt,.qm ks vs=>Need (KeyOK P kt) (bif hasP ks a b then False else Need (ks.length<140737488355328) <| Jk ks.length fun n=>dA (ks++ [(a,b)]) fun ks'=>dA (vs++ [.any]) fun vs'=>dA (hset H nm (.qm ks' vs')) fun H'=>K (.tup [.any,.val (.int .i64 (Int.ofNat n))]) H')
  | _,_=>False)
 | _,_=>False
def xC (H:List HO) (x s y:SV) (K:List HO->Prop):Prop:=
 match x,s with
 | .mp nm,.val (.int .i64 (Int.ofNat n))=>(match hget H nm with
  | .qm ks vs=>bif bare y&&Nat.blt n vs.length then dA (vs.set n y) fun vs'=>dA (hset H nm (.qm ks vs')) K else False
  | _=>False)
 | _,_=>False
def Tz (P:Program) (t:TypeId) (H:List HO) (x i:SV) (K:List HO->Prop):Prop:=False
def aB0 (P:Program) (t:TypeId) (H:List HO) (x:SV) (K:SV->List HO->Prop):Prop:=False
def aGk (H:List HO) (x:SV) (K:SV->List HO->Prop):Prop:=False
def aB1 (H:List HO) (x:SV) (K:SV->Prop):Prop:=False
def Ua (H:List HO) (x:SV) (K:SV->Prop):Prop:=False
def Jr (P:Program) (t:TypeId) (op:BinOp) (k k':IntKind) (a b c d:Int) (K:SV->Prop):Prop:=
 match P.underlying t with
 | some (.struct fs)=>match fs.toList with
  | [f,g]=>bif intF P f 0 k&&intF P g 1 k' then Need (f.name≠ "_" ∧g.name≠ "_" ∧P.stoodInHeld t=false) (match op with
   | .eql=>K (.bl (a=c/\b=d) inferInstance)
   | .neq=>K (.bl (¬(a=c/\b=d)) inferInstance)
   | _=>False) else False
  | _=>False
 | _=>False
def strs:List SV->(List (Bx)->Prop)->Prop
 | [],K=>K []
 | .str s::r,K=>strs r fun xs=>K (s::xs)
 | _,_=>False
def Yo (P:Program) (t:TypeId):Bool:=match P.underlying t with
 | some .string=>true
 | _=>false
def Nv (P:Program):List Field->Nat->Bool
 | [],_=>true
 | f::r,off=>Nat.beq f.offset off&&Yo P f.type&&Nv P r (off+1)
def aGl:List Field->Prop
 | []=>True
 | f::r=>f.name≠ "_" ∧aGl r
def Qp (P:Program) (t:TypeId) (op:BinOp) (l m:List SV) (K:SV->Prop):Prop:=
 match P.underlying t with
 | some (.struct fs)=>strs l fun xs=>strs m fun ys=>bif Nv P fs.toList 0&&Nat.beq fs.toList.length xs.length&&Nat.beq fs.toList.length ys.length then Need (aGl fs.toList/\P.stoodInHeld t=false) (match op with
   | .eql=>K (.bl (xs=ys) inferInstance)
   | .neq=>K (.bl (¬xs=ys) inferInstance)
   | _=>False) else False
 | _=>False
def Ub (P:Program) (t:TypeId):Option (Ty × TypeId):=
 match aBw P t (.const (.slice none 0 0)),sV P t with
 | some p,some [.val (.slice none 0 0)]=>some p
 | _,_=>none
def Qq:SV->Bool
 | .agg l=>l.any fun s=>match s with
  | .val (.slice none 0 0)=>true
  | _=>false
 | _=>false
def aGm:SV->Bool
 | .val (.slice none 0 0)=>true
 | _=>false
def nilRef (H:List HO) (nm off:Nat) (t:Ty) (e:TypeId) (K:List HO->Prop):Prop:=
 match hget H nm with
 | .cells l ce=>match l.getD off .any with
  | .val (.slice none 0 0)=>bif Nat.blt off l.length then dA (l.set off (.ref H.length 1)) fun l'=>dA (hset (H++ [.vec 1 t [] e]) nm (.cells l' ce)) K else False
  | _=>False
 | _=>False
structure NilRef (H:List HO) (nm:Nat) (K:List HO->Prop):Prop where
 ex:∃off t e,nilRef H nm off t e K
def aGn:SV->Nat
 | .ptr n _=>n
 | _=>0
def Yp:List (Nat × SV)->Bool
 | []=>false
 | (_,.ref _ _):: _=>true
 | _::r=>Yp r
def op1 (P:Program) (Γ:List Con) (o:Oper) (l:List (Nat × SV)) (H:List HO) (K:SV->List HO->Prop):Prop:=
 match o.op with
 | .move x=>hnf (ev l x) fun v=>K v H
 | .assign x=>match aBw P o.type x with
  | some (ty,e)=>dA (H++ [.vec 1 ty [] e]) fun H'=>K (.ref H.length 1) H'
  | none=>hnf (ev l x) fun v=>bif Qk v then aGf H v K else K v H
 | .pick c a b=>Ya (ev l a) (ev l b) (ev l c) fun v=>K v H
 | .binOp op t x y _=>match ev l x,ev l y with
  | .val (.int k a),.val (.int k' b)=>bif aBm op then Qc op k a b fun v=>K v H else bif decide (k=k') then aGc op k a b fun v=>K v H else False
  | .seq _ xs,.val (.slice none 0 0)=>bif Ad P t then Dd op (xs= []) fun v=>K v H else False
  | .ref nm ver,.val (.slice none 0 0)=>(match hget H nm with
   | .vec v _ xs _=>bif Ad P t&&Nat.beq v ver then Dd op (xs= []) fun v=>K v H else False
   | .fro v _ xs=>bif Ad P t&&Nat.beq v ver then Dd op (xs= []) fun v=>K v H else False
   | _=>False)
  | .val (.slice none 0 0),.val (.slice none 0 0)=>bif Ad P t then Dd op True fun v=>K v H else False
  | .str s,.str s'=>aGd op s s' fun v=>K v H
  | .val (.bool a),.val (.bool b)=>bif Fc P t then Fd op (a=true) (b=true) fun v=>K v H else False
  | .bl p _,.val (.bool b)=>bif Fc P t then Fd op p (b=true) fun v=>K v H else False
  | .val (.bool a),.bl q _=>bif Fc P t then Fd op (a=true) q fun v=>K v H else False
  | .bl p _,.bl q _=>bif Fc P t then Fd op p q fun v=>K v H else False
  | .agg [.val (.int k a),.val (.int k' b)],.agg [.val (.int j c),.val (.int j' d)]=>bif decide (k=j)&&decide (k'=j') then Jr P t op k k' a b c d fun v=>K v H else False
  | .agg (.str a::l'),.agg (.str b::m)=>Qp P t op (.str a::l') (.str b::m) fun v=>K v H
  | .ifc,.val .nilIface=>bif wZ P t&&Ih y then Dd op True fun v=>K v H else False
  | .val .nilIface,.val .nilIface=>bif wZ P t&&Ih y then nilT op fun v=>K v H else False
  | _,_=>False
 | .unOp .not _ x=>match ev l x with
  | .val (.bool true)=>K (.val (.bool false)) H
  | .val (.bool false)=>K (.val (.bool true)) H
  | .bl p _=>K (.bl (¬p) inferInstance) H
  | _=>False
 | .unOp .neg _ x=>match ev l x with
  | .val (.int k a)=>chk k (-a) (K (.val (.int k (-a))) H)
  | _=>False
 | .convert s d x=>Yi P H s d (ev l x) fun v=>K v H
 | .alloc t=>match Ub P t with
  | some (ty,e)=>dA (H++ [.vec 1 ty [] e]) fun H'=>xA H' (.cells [.ref H.length 1] t) K
  | none=>match sV P t with
   | some z=>dA z fun z'=>bif Qq (.agg z') then xA H (.cells z' t) fun s H'=>Own (K s H') (NilRef H' (aGn s) fun H''=>K s H'') else xA H (.cells z' t) K
   | none=>False
 | .nilCheck x=>match ev l x with
  | .ptr nm off=>bif live H (.ptr nm off) then K (.ptr nm off) H else False
  | .wcel n=>K (.wcel n) H
  | _=>False
 | .box t x=>bif Jd H (ev l x) then dA (eH (ev l x)) fun z=>bif aGm (ev l x) then xA H (.cells z t) fun s H'=>Own (K s H') (NilRef H' (aGn s) fun H''=>K s H'') else xA H (.cells z t) K else False
 | .build t ps=>bif vD H (ps.toList.map fun p=>(p.1,ev l p.2)) then (bif aBp P t then Yg P t (ps.toList.map fun p=>(p.1,ev l p.2)) fun v=>K v H else Qh P t (ps.toList.map fun p=>(p.1,ev l p.2)) fun v=>K v H) else False
 | .buildSlice t n ps=>bif Yp (ps.toList.map fun p=>(p.1,ev l p.2)) then dA (frz H (ps.toList.map fun p=>ev l p.2)) fun H'=>bif vD H' (ps.toList.map fun p=>(p.1,view false H' (ev l p.2))) then tC P t n (ps.toList.map fun p=>(p.1,view false H' (ev l p.2))) H' K else False
  else bif vD H (ps.toList.map fun p=>(p.1,ev l p.2)) then tC P t n (ps.toList.map fun p=>(p.1,ev l p.2)) H K else False
 | .load t x=>bif isVV H (ev l x) then aGj P t H (ev l x) fun v=>K v H else Yb P t H (ev l x) fun v=>K v H
 | .store t a x=>bif isVV H (ev l a) then Yn P t H (ev l a) (ev l x) fun H'=>K .any H' else bif Qq (ev l x) then Ii P t H (ev l a) (ev l x) fun H'=>Own (K .any H') (NilRef H' (aGn (ev l a)) fun H''=>K .any H'') else Ii P t H (ev l a) (ev l x) fun H'=>K .any H'
 | .fieldAddr t x f=>match ev l x,Ae P t f with
  | s,some (fo,sz,_)=>bif live H s&&Nat.blt 0 sz then (match s with
   | .ptr nm off=>K (.ptr nm (off+fo)) H
   | .elem ty xs i off=>K (.elem ty xs i (off+fo)) H
   | .vptr nm ver i z off=>K (.vptr nm ver i z (off+fo)) H
   | .lelem l off=>K (.lelem l (off+fo)) H
   | .wcel n=>bif Nat.beq fo 0 then K (.wcel n) H else False
   | _=>False) else False
  | _,_=>False
 | .field t x f=>match ev l x,Ae P t f with
  | .agg cs,some (fo,sz,ag)=>oP ag fo sz cs fun v=>K v H
  | _,_=>False
 | .indexAddr t x i=>bif isVV H (ev l x) then Ym P t H (ev l x) (ev l i) fun v=>K v H else bif aBp P t then Yf P t H (ev l x) (ev l i) fun v=>K v H else Qf P t H (ev l x) (ev l i) fun v=>K v H
 | .slice t x lo hi none=>Qm P t H (ev l x) (lo.map (ev l)) (hi.map (ev l)) K
 | .slice t x lo hi (some m)=>Tw P t H (ev l x) (lo.map (ev l)) (hi.map (ev l)) (some (ev l m)) K
 | .index t x i=>match P.underlying t,ev l x,ev l i with
  | some (.array n e),.agg cs,.val (.int _ j)=>(match aggB P e,jS P e with
   | some ag,some sz=>Need (0<=j/\j<n) (Ix j fun j=>oP ag (j*sz) sz cs fun v=>K v H)
   | _,_=>False)
  | some .string,.str s,.val (.int _ n)=>Need (0<=n/\n<s.length) (Ix n fun i=>Giv (0<=bE s i/\bE s i<=255) (K (.val (.int .u8 (bE s i))) H))
  | _,_,_=>False
 | .extract x i=>match ev l x with
  | .tup vs=>bif Nat.blt i vs.length then hnf (vs.getD i .any) fun v=>K v H else False
  | _=>False
 | .makeFunc (.func f) a b=>hnfL (a.toList.map (ev l)) fun as=>hnfL (b.toList.map (ev l)) fun bs=>K (.clo f as bs) H
 | .makeSlice t n c=>bif Qn P t then Gv P t (ev l n) (ev l c) fun n ty e ei=>dA (H++ [.vv 1 0 ty (List.replicate n.toNat []) none e ei]) fun H'=>K (.ref H.length 1) H' else Yk P t H (ev l n) (ev l c) K
 | .call c=>match c.callee with
  | .builtin .len=>match c.args.toList with
   | [x]=>match c.argTypes[0]? with
    | some t=>match P.underlying t,ev l x with
     | some (.slice _),s=>(match s with
      | .str _=>False
      | s=>bif isVV H s then lenV H s fun v=>K v H else aBo H s fun v=>K v H)
     | some .string,.str s=>aBo H (.str s) fun v=>K v H
     | some (.map _ _),s=>Ua H s fun v=>K v H
     | _,_=>False
    | none=>False
   | _=>False
  | .builtin .cap=>match c.args.toList with
   | [x]=>match c.argTypes[0]? with
    | some t=>match P.underlying t,ev l x with
     | some (.slice _),.val (.slice none 0 0)=>K (.val (.int .i64 0)) H
     | _,_=>False
    | none=>False
   | _=>False
  | .builtin .append=>match c.args.toList,c.argTypes.toList with
   | [s,x],[t,u]=>bif Nat.beq t u then (bif isVV H (ev l s) then Qo P t H (ev l s) (ev l x) K else bif Qk (ev l s) then aBr P t H (ev l s) (ev l x) K else Qi P t H (ev l s) (ev l x) K) else bif aMr (ev l x) then Qj P t u H (ev l s) (ev l x) K else yT P t u H (ev l s) (ev l x) K
   | _,_=>False
  | .builtin .copy=>match c.args.toList,c.argTypes.toList with
   | [x,y],[t,_]=>aGi P t H (ev l x) (ev l y) K
   | _,_=>False
  | .builtin .clear=>match c.args.toList,c.argTypes.toList with
   | [x],[t]=>aBs P t H (ev l x) fun H'=>K (.tup []) H'
   | _,_=>False
  | .builtin .delete=>match c.args.toList,c.argTypes[0]? with
   | [x,y],some t=>Tz P t H (ev l x) (ev l y) fun H'=>K (.tup []) H'
   | _,_=>False
  | .builtin .max=>match c.args.toList.map (ev l) with
   | .val (.int k a)::r=>Jg k a r fun v=>K v H
   | _=>False
  | .builtin .min=>match c.args.toList.map (ev l) with
   | .val (.int k a)::r=>Jh k a r fun v=>K v H
   | _=>False
  | .value f=>match ev l f with
   | .yld _=>match hget H 0 with
    | .yst (some k) n items=>hnfL (c.args.toList.map fun x=>yldV H (ev l x)) fun as=>Need (k<n) (Need (ent.entL as (items k))
      (Two (K (.val (.bool true)) (hset H 0 (.yst (some (k+1)) n items))) (K (.val (.bool false)) (hset H 0 (.yst none n items)))))
    | _=>False
   | .clo g first caps=>Yl Γ g (first++c.args.toList.map (ev l)++caps) H K
   | _=>False
  | _=>False
 | .makeMap t none=>Fg P t H K
 | .lookup t m x ok=>Jp P t ok H (ev l m) (ev l x) fun v=>K v H
 | .mapUpdate t m x y=>yU P t H (ev l m) (ev l x) (ev l y) fun H'=>K .any H'
 | .mapEntry t m x=>Cg P t H (ev l m) (ev l x) K
 | .entryStore _ m s y=>xC H (ev l m) (ev l s) (ev l y) fun H'=>K .any H'
 | .range t x=>aB0 P t H (ev l x) K
 | .next x false=>aGk H (ev l x) K
 | .entry x=>aB1 H (ev l x) fun v=>K v H
 | _=>False
def vN (ops:List Oper) (l:List (Nat × SV)) (g:Option (Nat × Bool)) (yes no:List (Nat × SV)->Prop):Prop:=
 match g with
 | none=>yes l
 | some (j,want)=>match (ops[j]?).bind (·.dst) with
  | none=>False
  | some t=>match look l t with
   | .val (.bool true)=>match want with | true=>yes l | false=>no l
   | .val (.bool false)=>match want with | true=>no l | false=>yes l
   | .bl p _=>match want with
    | true=>Br p (dA (put l t (.val (.bool true))) yes) (dA (put l t (.val (.bool false))) no)
    | false=>Br p (dA (put l t (.val (.bool true))) no) (dA (put l t (.val (.bool false))) yes)
   | .tup []=>no l
   | _=>False
def pE (P:Program) (Γ:List Con) (N:Nat) (all:List Oper) (ops:List Oper):List (Nat × SV)->List HO->(List (Nat × SV)->List HO->Prop)->Prop:=
 List.rec (motive:=fun _=>List (Nat × SV)->List HO->(List (Nat × SV)->List HO->Prop)->Prop)
  (fun l H K=>K l H)
  (fun o _ ih l H K=>vN all l o.guard
   (fun l=>op1 P Γ o l H fun v H'=>setT N l o.dst v fun l'=>ih l' H' K)
   (fun l=>setT N l o.dst (.tup []) fun l'=>ih l' H K)) ops
theorem Df (P:Program) (Γ:List Con) (N:Nat) (all:List Oper) (o:Oper) (r:List Oper) (l:List (Nat × SV)) (H:List HO) (K:List (Nat × SV)->List HO->Prop):pE P Γ N all (o::r) l H K=
  vN all l o.guard
   (fun l=>op1 P Γ o l H fun v H'=>setT N l o.dst v fun l'=>pE P Γ N all r l' H' K)
   (fun l=>setT N l o.dst (.tup []) fun l'=>pE P Γ N all r l' H K):=rfl
structure Pin (p:SV->Prop):Prop where
 ex:∃s,p s
structure Pinned (e e' C:Prop):Prop where
 val:e
 heap:e'
 go:C
def kL (l:List (Nat × SV)):List Operand->List (Nat × SV)
 | []=>[]
 | .tmp t::r=>(t,look l t)::kL l r
 | _::r=>kL l r
def Gw (P:Program) (Γ:List Con) (N:Nat) (all:List Oper) (ops:List Oper):List (Nat × SV)->List HO->(List (Nat × SV)->Prop)->Prop:=
 List.rec (motive:=fun _=>List (Nat × SV)->List HO->(List (Nat × SV)->Prop)->Prop)
  (fun l _ K=>K l)
  (fun o _ ih l H K=>vN all l o.guard
   (fun l=>Pin fun s=>dA (kL l o.op.operands.toList) fun l₁=>op1 P Γ o l₁ H fun s' H'=>Pinned (s'=s) (H'=H) (setT N l o.dst s fun l'=>ih l' H K))
   (fun l=>setT N l o.dst (.tup []) fun l'=>ih l' H K)) ops
theorem Yq (P:Program) (Γ:List Con) (N:Nat) (all:List Oper) (o:Oper) (r:List Oper) (l:List (Nat × SV)) (H:List HO) (K:List (Nat × SV)->Prop):Gw P Γ N all (o::r) l H K=
  vN all l o.guard
   (fun l=>Pin fun s=>dA (kL l o.op.operands.toList) fun l₁=>op1 P Γ o l₁ H fun s' H'=>Pinned (s'=s) (H'=H) (setT N l o.dst s fun l'=>Gw P Γ N all r l' H K))
   (fun l=>setT N l o.dst (.tup []) fun l'=>Gw P Γ N all r l' H K):=rfl
def Js (o:Oper) (t:Nat):Bool:=match o.dst with
 | some u=>Nat.beq u t
 | none=>false
def waits (o:Oper) (j:Nat):Bool:=o.after.toList.any fun e=>Region.binds .any e&&Nat.beq e.on j
def aB2 (ops:List Oper) (j:Nat):Option Nat:=(ops[j]?).bind (·.dst)
def Qr (ops:List Oper) (m i:Nat) (o:Oper) (t:Nat):Bool:=(List.range m).all fun j=>match ops[j]? with
 | some o'=> !Js o' t || (waits o j&&Nat.blt j i || waits o' i)
 | none=>true
def opOk (ops:List Oper) (m i:Nat) (o:Oper):Bool:=
 (o.op.operands.toList.all fun x=>match x with
  | .tmp t=>Qr ops m i o t
  | _=>true)&&
 ((match o.guard with
   | some (j,_)=>match aB2 ops j with
    | some t=>Qr ops m i o t
    | none=>true
   | none=>true)&&
 (match o.dst with
  | some t=>(List.range m).all fun j=>Nat.beq j i || (match ops[j]? with
   | some o'=> !Js o' t
   | none=>true)
  | none=>true))
def topo (i:Nat) (o:Oper):Bool:=o.after.toList.all fun e=> !Region.binds .any e || Nat.blt e.on i
def aGo (x:Operand) (o:Oper):Bool:=match x with
 | .tmp u=>Js o u
 | _=>false
def Yr (ops:List Oper) (o:Oper) (t:Nat):Bool:=(o.op.operands.toList.any fun y=>match y with
  | .tmp u=>Nat.beq u t
  | _=>false) || (match o.guard with
  | some (j,_)=>(match aB2 ops j with
   | some u=>Nat.beq u t
   | none=>false)
  | none=>false)
def aGp (o:Oper):Bool:=match o.op with
 | .select _ _=>false
 | .defer _=>false
 | _=>true
def pureArg:Op->Option Operand
 | .move x=>some x
 | .extract x _=>some x
 | _=>none
def isExt:Op->Bool
 | .extract _ _=>true
 | _=>false
def Qs (ext:Bool) (ops:List Oper) (i:Nat):Bool:=match ops[i]? with
 | some o=>(match pureArg o.op,o.guard,o.dst with
  | some x,none,some t=>(bif isExt o.op then ext else o.after.toList.all fun e=> !Region.binds .any e)&&(List.range ops.length).all fun j=>match ops[j]? with
   | some o'=>(Nat.beq j i || !Js o' t)&&((!aGo x o' || waits o j)&&((Nat.beq j i || (!Yr ops o' t || waits o' i))&&aGp o'))
   | none=>true
  | _,_,_=>false)
 | none=>false
def vO (ops:List Oper) (i:Nat):Bool:=Qs true ops i
def yV (ms:List Nat) (o:Oper):Nat:=o.after.toList.foldl (fun acc e=>bif Region.binds .any e then Nat.lor (Nat.lor acc (Nat.shiftLeft 1 e.on)) (ms.getD e.on 0) else acc) 0
def pS:List Oper->List Nat->List Nat
 | [],ms=>ms
 | o::r,ms=>pS r (ms++ [yV ms o])
def Fh {β:Sort _}:List Oper->List Nat->(List Nat->β)->β
 | [],ms,k=>k ms
 | o::r,ms,k=>Jk (yV ms o) fun m=>dA (ms++ [m]) fun ms'=>Fh r ms' k
theorem Ag {β:Sort _}:∀(ops:List Oper) (ms:List Nat) (k:List Nat->β),Fh ops ms k=k (pS ops ms)
 | [],_,_=>rfl
 | o::r,ms,k=>by simp only[Fh,pS];rw[Ff,bY,Ag r]
def oQ (ms:List Nat) (i j:Nat):Bool:=Nat.testBit (ms.getD i 0) j
def Qt (ms:List Nat) (ext:Bool) (ops:List Oper):Nat->Nat
 | 0=>0
 | k+1=>match ops[k]? with
  | some _=>bif (List.range k).all (fun j=>oQ ms k j || Qs ext ops j) then Qt ms ext ops k else k+1
  | none=>0
def aGq (l:List Oper):Bool:=l.any fun o=>match o.op with
 | .store _ (.tmp t) _=>l.any fun o'=>match o'.op with
  | .alloc _=>Js o' t
  | _=>false
 | _=>false
def Qu (ops:List Oper) (n:Nat):Nat:=Fh ops [] fun ms=>Jk (Qt ms false ops n) fun m=>bif aGq (ops.take m) then Qt ms true ops n else m
def Qv (ops:List Oper) (p:Nat->Oper->Bool) (n:Nat):Bool:=(List.range n).all fun i=>match ops[i]? with
 | some o=>p i o
 | none=>true
def Ah (ops:List Oper) (m:Nat):Bool:=Nat.ble m ops.length&&(Qv ops (opOk ops m) m&&(Qv ops topo ops.length&&Fh ops [] fun ms=>Qv ops (fun i _=>Nat.blt i m || (List.range i).all (fun j=>oQ ms i j || (Nat.blt j m&&vO ops j))) ops.length))
structure Fx where
 p:Nat
 n:Nat
 o:HO
structure Rc where
 i:Nat
 o:Oper
 l:List (Nat × SV)
 s:SV
def jT (B:List HO):List Fx->(Nat->Bool)->List HO
 | [],_=>B
 | ⟨p,n,o⟩::r,S=>bif S p then hset (jT B r S) n o else jT B r S
theorem pT (B:List HO) (f:Fx) (r:List Fx) (S:Nat->Bool):jT B (f::r) S=bif S f.p then hset (jT B r S) f.n f.o else jT B r S:=by cases f;rfl
def psK:List Fx->(List Nat->Prop)->Prop
 | [],k=>k []
 | ⟨p,_,_⟩::r,k=>psK r fun ps=>k (p::ps)
theorem aGr:∀(fx:List Fx) (k:List Nat->Prop),psK fx k=k (fx.map (·.p))
 | [],_=>rfl
 | ⟨p,_,_⟩::r,k=>by simp only[psK];rw[aGr r];rfl
def lenK:List HO->Nat->(Nat->Prop)->Prop
 | [],n,k=>k n
 | _::r,n,k=>lenK r (n+1) k
theorem aB3:∀(l:List HO) (n:Nat) (k:Nat->Prop),lenK l n k=k (n+l.length)
 | [],_,_=>rfl
 | _::r,n,k=>by simp only[lenK];rw[aB3 r];simp only[bS];congr 1;omega
def isOwn (Γ:List Con) (c:Call):Bool:=match c.callee with
 | .value (.func f)=>(match Db Γ f with
  | some d=>(match d.hp,d.lin,d.own with
   | none,none,some _=>true
   | _,_,_=>false)
  | none=>false)
 | _=>false
def isA (Γ:List Con) (o:Oper):Bool:=match o.op,o.guard with
 | .makeSlice _ _ _,none=>true
 | .alloc _,none=>true
 | .call c,none=>isOwn Γ c
 | _,_=>false
def isL (Γ:List Con) (o:Oper):Bool:=match o.op with
 | .call c=>(match c.callee with
  | .builtin .append=>true
  | .builtin .copy=>true
  | .value (.func f)=>(match Db Γ f with
   | some c=>(match c.lin,c.hp with
    | some (0,_,_),_=>true
    | _,some _=>true
    | _,_=>false)
   | none=>false)
  | _=>false)
 | .store _ _ _=>true
 | .mapEntry _ _ _=>true
 | .entryStore _ _ _ _=>true
 | .mapUpdate _ _ _ _=>true
 | _=>false
def Jt:SV->Nat
 | .ref n _=>n
 | .ptr n _=>n
 | .vptr n _ _ _ _=>n
 | .sub n _ _ _=>n
 | .part n _ _ _ _=>n
 | .lim n _ _ _=>n
 | .mp n=>n
 | _=>0
def tgt (l:List (Nat × SV)) (o:Oper):Nat:=match o.op with
 | .call c=>(match c.args.toList with
  | x:: _=>Jt (ev l x)
  | []=>0)
 | .store _ a _=>Jt (ev l a)
 | .mapEntry _ a _=>Jt (ev l a)
 | .entryStore _ a _ _=>Jt (ev l a)
 | .mapUpdate _ a _ _=>Jt (ev l a)
 | _=>0
def aGs (P:Program) (t:TypeId) (nm:Nat) (n c:SV) (K:SV->HO->Prop):Prop:=
 match fZ P t,n,c with
 | some e,.val (.int _ n),.val (.int _ c)=>match tyOf P 24 e,P.info? e,sV P e with
  | some ty,some i,some z=>bif Nat.beq i.size ty.size&&tB ty z&&Nat.beq z.length ty.size then (match dec ty z with
    | some x0=>Need (0<=n/\n<=c/\c<=140737488355328/\c*(i.bytes:Int)<=140737488355328) (K (.ref nm 1) (.vec 1 ty (List.replicate n.toNat x0) e))
    | none=>False) else False
  | _,_,_=>False
 | _,_,_=>False
def ownD (cl:List SV->(SV->HO->Prop)->Prop) (args:List SV) (nm:Nat) (K:SV->HO->Prop):Prop:=
 hnfL args fun as=>bif bare.bareL as then cl as fun r o=>hnf r fun r=>(match o with
  | .vec _ t ys e=>bif t.flat&&okR r then hnf (renm nm r) fun r'=>K r' (.vec 1 t ys e) else False
  | _=>False) else False
def Qw (P:Program) (Γ:List Con) (o:Oper) (l:List (Nat × SV)) (nm:Nat) (K:SV->HO->Prop):Prop:=match o.op with
 | .makeSlice t n c=>bif Qn P t then Gv P t (ev l n) (ev l c) fun n ty e ei=>K (.ref nm 1) (.vv 1 0 ty (List.replicate n.toNat []) none e ei) else aGs P t nm (ev l n) (ev l c) K
 | .alloc t=>(match sV P t with
  | some z=>dA z fun z'=>K (.ptr nm 0) (.cells z' t)
  | none=>False)
 | .call c=>(match c.callee with
  | .value (.func f)=>(match Db Γ f with
   | some d=>(match d.hp,d.lin,d.own with
    | none,none,some cl=>ownD cl (c.args.toList.map (ev l)) nm K
    | _,_,_=>False)
   | none=>False)
  | _=>False)
 | _=>False
structure PinH (p:SV->HO->Prop):Prop where
 ex:∃s o,p s o
structure Chk (p C:Prop):Prop where
 chk:p
 go:C
structure Fin0:Prop where
def fxW (o:Oper) (n:Nat):List Fx->Bool
 | []=>true
 | ⟨p,m,_⟩::r=>(!Nat.beq m n || waits o p)&&fxW o n r
theorem Uc {o:Oper} {n:Nat}:∀ {fx:List Fx},fxW o n fx=true->∀f∈fx,f.n=n->waits o f.p=true
 | ⟨p,m,b⟩::r,h,f,hf,hn=>by
  simp only[fxW,aE,cQ,nC] at h;rcases bH.1 hf with rfl | hf
  ·rcases h.1 with h1 | h1
   ·have hn:m=n:=hn;rw[hn] at h1;simp at h1
   exact h1
  exact Uc h.2 f hf hn
def Dg (P:Program) (Γ:List Con) (N:Nat) (all:List Oper) (n0:Nat) (ops:List Oper):Nat->List (Nat × SV)->List HO->List Fx->List Rc->Nat->(List (Nat × SV)->List HO->List Fx->List Rc->Prop)->Prop:=
 List.rec (motive:=fun _=>Nat->List (Nat × SV)->List HO->List Fx->List Rc->Nat->(List (Nat × SV)->List HO->List Fx->List Rc->Prop)->Prop)
  (fun _ l H fx rs _ K=>K l H fx rs)
  (fun o _ ih i l H fx rs na K=>vN all l o.guard
   (fun l=>match isA Γ o with
    | true=>Qw P Γ o l (n0+na) fun s ob=>setT N l o.dst s fun l'=>dA (hset H (n0+na) ob) fun H'=>ih (i+1) l' H' (⟨i,n0+na,ob⟩::fx) rs (na+1) K
    | false=>match isL Γ o with
     | true=>PinH fun s ob=>dA (kL l o.op.operands.toList) fun l₁=>op1 P Γ o l₁ H fun s' H'=>Pinned (s'=s) (H'=hset H (tgt l₁ o) ob)
       (bif Nat.blt (tgt l₁ o) n0 || (Nat.blt (tgt l₁ o) (n0+na)&&fxW o (tgt l₁ o) fx) then setT N l o.dst s fun l'=>dA (hset H (tgt l₁ o) ob) fun H''=>ih (i+1) l' H'' (⟨i,tgt l₁ o,ob⟩::fx) (⟨i,o,l₁,s⟩::rs) na K else False)
     | false=>Pin fun s=>dA (kL l o.op.operands.toList) fun l₁=>op1 P Γ o l₁ H fun s' H'=>Pinned (s'=s) (H'=H) (setT N l o.dst s fun l'=>ih (i+1) l' H fx (⟨i,o,l₁,s⟩::rs) na K))
   (fun l=>setT N l o.dst (.tup []) fun l'=>ih (i+1) l' H fx rs na K)) ops
theorem Ys (P:Program) (Γ:List Con) (N:Nat) (all:List Oper) (n0:Nat) (o:Oper) (r:List Oper) (i:Nat) (l:List (Nat × SV)) (H:List HO) (fx:List Fx) (rs:List Rc) (na:Nat) (K:List (Nat × SV)->List HO->List Fx->List Rc->Prop):Dg P Γ N all n0 (o::r) i l H fx rs na K=
  vN all l o.guard
   (fun l=>match isA Γ o with
    | true=>Qw P Γ o l (n0+na) fun s ob=>setT N l o.dst s fun l'=>dA (hset H (n0+na) ob) fun H'=>Dg P Γ N all n0 r (i+1) l' H' (⟨i,n0+na,ob⟩::fx) rs (na+1) K
    | false=>match isL Γ o with
     | true=>PinH fun s ob=>dA (kL l o.op.operands.toList) fun l₁=>op1 P Γ o l₁ H fun s' H'=>Pinned (s'=s) (H'=hset H (tgt l₁ o) ob)
       (bif Nat.blt (tgt l₁ o) n0 || (Nat.blt (tgt l₁ o) (n0+na)&&fxW o (tgt l₁ o) fx) then setT N l o.dst s fun l'=>dA (hset H (tgt l₁ o) ob) fun H''=>Dg P Γ N all n0 r (i+1) l' H'' (⟨i,tgt l₁ o,ob⟩::fx) (⟨i,o,l₁,s⟩::rs) na K else False)
     | false=>Pin fun s=>dA (kL l o.op.operands.toList) fun l₁=>op1 P Γ o l₁ H fun s' H'=>Pinned (s'=s) (H'=H) (setT N l o.dst s fun l'=>Dg P Γ N all n0 r (i+1) l' H fx (⟨i,o,l₁,s⟩::rs) na K))
   (fun l=>setT N l o.dst (.tup []) fun l'=>Dg P Γ N all n0 r (i+1) l' H fx rs na K):=rfl
def memN (n:Nat):List Nat->Bool
 | []=>false
 | x::r=>Nat.beq x n || memN n r
def subs:List Nat->List (List Nat)
 | []=>[[]]
 | p::r=>subs r++(subs r).map (p:: ·)
def admB (ms:List Nat) (ps:List Nat) (i:Nat) (sub:List Nat):Bool:=
 !memN i sub&&(ps.all (fun p=> !oQ ms i p || memN p sub)&&sub.all (fun p=> !oQ ms p i&&ps.all fun q=> !oQ ms p q || memN q sub))
def chk1 (P:Program) (Γ:List Con) (B:List HO) (fx:List Fx) (i:Nat) (o:Oper) (l:List (Nat × SV)) (s:SV) (sub:List Nat):Prop:=
 qM (jT B fx fun j=>memN j sub) fun H=>op1 P Γ o l H fun s' H'=>Pinned (s'=s) (H'=jT B fx fun j=>memN j sub || Nat.beq j i) Fin0
def chkS (P:Program) (Γ:List Con) (ms ps:List Nat) (B:List HO) (fx:List Fx) (i:Nat) (o:Oper) (l:List (Nat × SV)) (s:SV) (sl:List (List Nat)):Prop:=
 List.rec (motive:=fun _=>Prop) Fin0 (fun sub _ ih=>cond (admB ms ps i sub) (Chk (chk1 P Γ B fx i o l s sub) ih) ih) sl
theorem aDt (P:Program) (Γ:List Con) (ms ps:List Nat) (B:List HO) (fx:List Fx) (i:Nat) (o:Oper) (l:List (Nat × SV)) (s:SV) (sub:List Nat) (sl:List (List Nat)):chkS P Γ ms ps B fx i o l s (sub::sl)=cond (admB ms ps i sub) (Chk (chk1 P Γ B fx i o l s sub) (chkS P Γ ms ps B fx i o l s sl)) (chkS P Γ ms ps B fx i o l s sl):=rfl
def chkR (P:Program) (Γ:List Con) (ms ps:List Nat) (B:List HO) (fx:List Fx) (rs:List Rc):Prop:=
 List.rec (motive:=fun _=>Prop) Fin0 (fun r _ ih=>match r with
  | ⟨i,o,l,s⟩=>Chk (chkS P Γ ms ps B fx i o l s (subs ps)) ih) rs
theorem aDu (P:Program) (Γ:List Con) (ms ps:List Nat) (B:List HO) (fx:List Fx) (r:Rc) (rs:List Rc):chkR P Γ ms ps B fx (r::rs)=Chk (chkS P Γ ms ps B fx r.i r.o r.l r.s (subs ps)) (chkR P Γ ms ps B fx rs):=by cases r;rfl
def cntA (Γ:List Con):List Oper->Nat
 | []=>0
 | o::r=>bif isA Γ o then cntA Γ r+1 else cntA Γ r
def aGt (Γ:List Con):List Oper->Bool
 | []=>false
 | o::r=>isA Γ o || (isL Γ o || aGt Γ r)
def aB4 (P:Program) (Γ:List Con) (N:Nat) (all:List Oper) (m:Nat) (l:List (Nat × SV)) (H:List HO) (K:List (Nat × SV)->List HO->Prop):Prop:=
 bif aGt Γ (all.take m) then
  dA (H++List.replicate (cntA Γ (all.take m)) .res) fun B=>lenK H 0 fun n0=>Dg P Γ N all n0 (all.take m) 0 l B [] [] 0 fun l' H' fx rs=>
   Chk (Fh all [] fun ms=>psK fx fun ps=>chkR P Γ ms ps B fx rs) (pE P Γ N all (all.drop m) l' H' K)
 else Gw P Γ N all (all.take m) l H fun l'=>pE P Γ N all (all.drop m) l' H K
structure Ann where
 X:Type
 pre:X->Prop
 mod:X->List HO->List (Nat × SV)
 heap:X->List HO->List HO:=fun _ H=>H
 objs:List Nat:=[]
 mu:X->Nat:=fun _=>0
 swp:Option (Nat × Nat):=none
def mem (n:Nat):List Nat->Bool
 | []=>false
 | x::r=>Nat.beq x n || mem n r
def allN (p:Nat->Bool):SV->Bool
 | .ref nm _=>p nm
 | .vptr nm _ _ _ _=>p nm
 | .wide nm _=>p nm
 | .ptr nm _=>p nm
 | .mp nm=>p nm
 | .sub nm _ _ _=>p nm
 | .subp nm _ _=>p nm
 | .part nm _ _ _ _=>p nm
 | .lim nm _ _ _=>p nm
 | .lit _ l=>allNL p l
 | .lelem l _=>allNL p l
 | .fmp _ l=>allNL p l
 | .agg l=>allNL p l
 | .tup l=>allNL p l
 | .clo _ a b=>allNL p a&&allNL p b
 | _=>true
where allNL (p:Nat->Bool):List SV->Bool
 | []=>true
 | x::r=>allN p x&&allNL p r
def names (ns:List Nat) (s:SV):Bool:= !allN (fun n=> !mem n ns) s
def under (n:Nat) (s:SV):Bool:=allN (fun m=>Nat.blt m n) s
def gC:Code->List Nat
 | .region _ ops _=>ops.toList.filterMap (·.dst)
 | .seq a b=>gC a++gC b
 | .cond _ a b=>gC a++gC b
 | .block _ c=>gC c
 | .loop c=>gC c
 | .scope c=>gC c
 | _=>[]
def base (ws objs:List Nat):List (Nat × SV)->List (Nat × SV)
 | []=>[]
 | (t,v)::r=>(t,bif mem t ws || names objs v then .any else v)::base ws objs r
def puts:List (Nat × SV)->List (Nat × SV)->List (Nat × SV)
 | [],l=>l
 | (t,v)::r,l=>puts r (put l t v)
def fK:HO->Bool
 | .cells _ _=>true
 | _=>false
def reV (objs:List Nat) (H' H:List HO):SV->SV
 | .ptr nm off=>bif mem nm objs then (bif fK (hget H' nm) then .ptr nm off else .any) else .ptr nm off
 | .ref nm v=>bif mem nm objs then (bif Nat.beq v (iN H' nm)&&Nat.blt 0 (iN H nm) then .ref nm (iN H nm) else .any) else .ref nm v
 | s=>bif names objs s then .any else s
def entM (objs:List Nat) (H' H:List HO) (n:Nat) (l':List (Nat × SV)):List (Nat × SV)->Prop
 | []=>True
 | (t,s)::r=>(bif under n s&&under n (look l' t) then ent (reV objs H' H (look l' t)) s else ent .any s)/\entM objs H' H n l' r
def entC (objs:List Nat) (H' H:List HO) (n:Nat):List SV->List SV->Prop
 | [],[]=>True
 | x::r,y::r'=>(bif under n y&&under n x then ent (reV objs H' H x) y else ent .any y)/\entC objs H' H n r r'
 | _,_=>False
def aMu {t' t:Ty} (e:t'=t) (m:MapS t'.T) (K:MapS t.T->Prop):Prop:=Eq.rec (motive:=fun t _=>(MapS t.T->Prop)->Prop) (fun K=>K m) e K
theorem aGu {t' t:Ty} (e:t'=t) (m:MapS t'.T) (K:MapS t.T->Prop):aMu e m K=K (e ▸ m):=by subst e;rfl
def aGv (t t':Ty) (m:MapS t.T) (m':MapS t'.T):Prop:=if h:t=t' then aMu h m (fun m=>m=m') else False
def aMv {t' t:Ty} (e:t'=t) (xss:List (List t'.T)) (K:List (List t.T)->Prop):Prop:=Eq.rec (motive:=fun t _=>(List (List t.T)->Prop)->Prop) (fun K=>K xss) e K
theorem aDv {t:Ty} (xss:List (List t.T)) (K:List (List t.T)->Prop):aMv rfl xss K=K xss:=rfl
def vvEq (t t':Ty) (xss:List (List t.T)) (yss:List (List t'.T)):Prop:=if h:t=t' then aMv h xss (fun xss=>xss=yss) else False
def entO (objs:List Nat) (H' H:List HO) (n nm:Nat):HO->HO->Prop
 | _,.dead=>True
 | .cells l e,.cells l' e'=>e=e'/\entC objs H' H n l l'
 | .vec v t xs e,.vec v' t' ys e'=>e=e'/\(bif mem nm objs then 0<v' else v=v')/\Bj t t' xs ys
 | .fro v t xs,.fro v' t' ys=>v=v'/\Bj t t' xs ys
 | .frc l,.frc l'=>entC objs H' H n l l'
 | .gone,.gone=>mem nm objs=false
 | .yst st m it,.yst st' m' it'=>mem nm objs=false/\st=st'/\m=m'/\it=it'
 | .map k t m,.map k' t' m'=>mem nm objs=false/\k=k'/\aGv t t' m m'
 | .vv k s t xss p eo ei,.vv k' s' t' yss p' eo' ei'=>mem nm objs=false/\k=k'/\s=s'/\vvEq t t' xss yss/\eo=eo'/\ei=ei'/\p.isNone=true/\p'.isNone=true
 | .lnt k t xs,.lnt k' t' ys=>mem nm objs=false/\k=k'/\Bj t t' xs ys
 | .qm k l,.qm k' l'=>mem nm objs=false/\k=k'/\l=l'
 | .frm k l,.frm k' l'=>mem nm objs=false/\k=k'/\l=l'
 | .mit a s l c,.mit a' s' l' c'=>mem nm objs=false/\(mem a' objs=false/\Nat.blt a' n=true)/\a=a'/\s=s'/\l=l'/\c=c'
 | _,_=>False
def entH (objs:List Nat) (A B:List HO) (n:Nat):Nat->List HO->List HO->Prop
 | _,_,[]=>True
 | k,o'::r',o::r=>entO objs A B n k o' o/\entH objs A B n (k+1) r' r
 | _,[],_:: _=>False
def annL (an:Ann) (x:an.X) (ws:List Nat) (l:List (Nat × SV)) (H:List HO):List (Nat × SV):=puts (an.mod x H) (base ws an.objs l)
structure Arr (pre ent:Prop):Prop where
 pre:pre
 ent:ent
def vP (an:Ann) (x:an.X) (H:List HO) (l':List (Nat × SV)) (H':List HO):Prop:=
 Arr (an.pre x) (entM an.objs H' (an.heap x H) H.length l' (an.mod x H)/\entH an.objs H' (an.heap x H) H.length 0 H' (an.heap x H))
def swV (a b:Nat):SV->SV
 | .ptr nm off=>bif Nat.beq nm b then .ptr a off else bif Nat.beq nm a then .any else .ptr nm off
 | s=>bif names [a,b] s then .any else s
def swT (a b:Nat) (p:Nat × SV):Nat × SV:=(p.1,swV a b p.2)
def swO (a b:Nat):HO->HO
 | .cells l e=>.cells (l.map (swV a b)) e
 | .frc l=>.frc (l.map (swV a b))
 | .mit m s l c=>bif Nat.beq m a then .dead else .mit m s l c
 | o=>o
def swH (a b:Nat) (H:List HO):List HO:=hset (hset (H.map (swO a b)) a (swO a b (hget H b))) b .dead
def Dh (an:Ann) (x:an.X) (H:List HO) (l':List (Nat × SV)) (H':List HO):Prop:=
 match an.swp with
 | none=>vP an x H l' H'
 | some (t,a)=>match look l' t with
  | .ptr b 0=>bif mem a an.objs&&(Nat.ble H.length b&&(Nat.blt a H.length&&(fK (hget H' a)&&fK (hget H' b)))) then nG (l'.map (swT a b)) fun l'=>qM (swH a b H') fun H'=>vP an x H l' H' else False
  | _=>False
structure LoopVC (X:Type) (init:X->Prop) (round:X->Prop):Prop where
 init:∃x,init x
 round:∀x,round x
abbrev Wp:=List (Nat × SV)->List HO->(Exit->List (Nat × SV)->List HO->Prop)->Prop
def Fi (body:Wp) (n:Nat):Wp:=
 Nat.rec (motive:=fun _=>Wp) (fun _ _ _=>False)
  (fun _ ih l H K=>body l H fun e l' H'=>match e with
   | .normal=>nG l' fun l'=>qM H' fun H'=>ih l' H' K
   | e=>K e l' H') n
theorem Ud (body:Wp) (n:Nat) (l:List (Nat × SV)) (H:List HO) (K:Exit->List (Nat × SV)->List HO->Prop):Fi body (n+1) l H K=body l H fun e l' H'=>match e with
  | .normal=>nG l' fun l'=>qM H' fun H'=>Fi body n l' H' K
  | e=>K e l' H':=rfl
def aGw (ws:List Nat):List (Nat × SV)->Bool
 | []=>true
 | (t,_)::r=>mem t ws&&aGw ws r
def vZ:Code->Option Nat
 | .region id _ _=>some id
 | .seq a b=>match vZ a with
  | some n=>some n
  | none=>vZ b
 | .cond _ _ _=>none
 | .block _ c=>vZ c
 | .loop c=>vZ c
 | .scope c=>vZ c
 | _=>none
structure Anns where
 loops:List (Nat × Ann):=[]
 cuts:List (Nat × Ann):=[]
 rounds:Nat:=40
 asks:List (Nat × List Nat):=[]
def aB5:List (Nat × Ann)->Nat->Option Ann
 | [],_=>none
 | (k,a)::r,n=>bif Nat.beq k n then some a else aB5 r n
def aGx:List (Nat × List Nat)->Nat->Option (List Nat)
 | [],_=>none
 | (k,a)::r,n=>bif Nat.beq k n then some a else aGx r n
def Ju (A:Anns) (key:Nat):List Nat:=match aB5 A.loops key with
 | some an=>an.objs
 | none=>match aGx A.asks key with
  | some o=>o
  | none=>[]
structure Ask (objs:List Nat) (p:Ann->Prop):Prop where
 ex:∃an,an.objs=objs/\p an
def Ai (A:Anns) (key:Nat) (p:Ann->Prop) (no:Prop):Prop:=match aB5 A.loops key with
 | some an=>p an
 | none=>match aGx A.asks key with
  | some o=>Ask o p
  | none=>no
theorem Gx {A:Anns} {key:Nat} {p:Ann->Prop} {no:Prop} (h:Ai A key p no):(∃an,Ju A key=an.objs/\p an)\/no:=by
 unfold Ai at h;unfold Ju;split at h
 ·exact .inl ⟨_,rfl,h⟩
 split at h
 ·obtain ⟨an,h1,h2⟩:=h.ex;exact .inl ⟨an,h1.symm,h2⟩
 exact .inr h
def aB6 (A:Anns) (c:Code):Option Ann:=
 match A.cuts with
 | []=>none
 | cs=>match vZ c with
  | some n=>aB5 cs n
  | none=>none
def dI (A:Anns):Nat->Code->List Nat
 | key,.seq a b=>dI A key a++dI A key b++(match aB6 A b with
  | some an=>an.objs
  | none=>[])
 | key,.cond _ a b=>dI A key a++dI A key b
 | _,.block id c=>dI A id c
 | key,.loop c=>dI A key c++Ju A key
 | key,.scope c=>dI A key c
 | key,.rangeFunc _ _ x y=>(dI A key x++dI A key y)++Ju A key
 | _,_=>[]
def rH (objs:List Nat) (n:Nat):List Nat->Bool
 | []=>true
 | x::r=>(mem x objs || Nat.ble n x)&&rH objs n r
def Qx:HO->Bool
 | .gone=>true
 | _=>false
def Gy:List HO->List HO->Bool
 | [],_=>true
 | o::r,o'::r'=>(!Qx o || Qx o')&&Gy r r'
 | _,[]=>false
def Ue (ws tch:List Nat) (an:Ann) (H:List HO):Prop:=∀x,(aGw ws (an.mod x H)&&Nat.beq (an.heap x H).length H.length&&rH an.objs H.length tch&&Gy H (an.heap x H))=true
def lntV (n:Nat):List SV->List SV
 | [.seq _ _]=>[.subp n 1 0]
 | vs=>vs.map Tu
def lntH:List SV->List HO
 | [.seq t xs]=>[.lnt 1 t xs]
 | _=>[]
def Uf:HO->Bool
 | .lnt 1 _ _=>true
 | _=>false
def aB7 (vs:List SV) (n:Nat) (D:List Nat) (H:List HO):Bool:=match vs with
 | [.seq _ _]=>Uf (hget H n)&& !mem n D
 | _=>true
def lntX (vs:List SV) (n:Nat) (H:List HO):List HO:=match vs with
 | [.seq _ _]=>hset H n .dead
 | _=>H
def Ug:List SV->Prop->Prop
 | [],C=>C
 | .val (.int k n)::r,C=>giv k n (Ug r C)
 | _::r,C=>Ug r C
def Uh:List Nat->List SV->List (Nat × SV)->List (Nat × SV)
 | t::ts,s::ss,l=>Uh ts ss (put l t s)
 | _,_,l=>l
structure RangeVC (X:Type) (init:Prop) (round stop:X->Prop):Prop where
 init:init
 round:∀x,round x
 stop:∀x,stop x
def Yt (H:List HO):List SV->Option (Nat × Nat)
 | [.lelem [.ref nm k] 0]=>match hget H nm with
  | .vec j _ _ _=>bif Nat.beq j k then some (nm,k) else none
  | _=>none
 | _=>none
def Di (nm k n:Nat) (H:List HO):Prop:=match hget H nm with
 | .vec j t xs _=>j=k/\t.size=1/\List.length (α:=t.T) xs=n
 | _=>False
def Fj (N:Nat) (A:Anns) (key:Nat) (ps:Array Tmp) (x y:Code) (an:Ann) (n:Nat) (items:Nat->List SV) (l:List (Nat × SV)) (H:List HO) (X Y:List (Nat × SV)->List HO->(Exit->List (Nat × SV)->List HO->Prop)->Prop) (K:Exit->List (Nat × SV)->List HO->Prop):Prop:=
 bif !mem H.length an.objs then Need (Ue [] (dI A key x++dI A key y) an H) (RangeVC an.X (∃z,an.mu z=0/\vP an z H l H)
  (fun z=>an.pre z->an.mu z<n->hnfL (items (an.mu z)) fun vs=>bif Nat.beq vs.length ps.size&&(ps.toList.all fun t=>Nat.blt t N) then Ug vs (hnfL (lntV (H.length+1) vs) fun vs'=>nG (Uh ps.toList vs' (base [] an.objs l)) fun l₁=>qM ((an.heap z H++ [.gone])++lntH vs) fun H₁=>
   X l₁ H₁ fun e l' H'=>match e with
    | .normal=>Y l' H' fun e l' H'=>bif Qx (hget H' H.length)&&aB7 vs (H.length+1) (dI A key x++dI A key y) H' then (match e with
      | .normal=>∃z',an.mu z'=an.mu z+1/\vP an z' H l H'
      | .ret=>nG (base [] ((dI A key x++dI A key y)++an.objs) l) fun l'=>dA (lntX vs (H.length+1) H') fun H'=>K .ret l' H'
      | .exit n=>nG (base [] ((dI A key x++dI A key y)++an.objs) l) fun l'=>dA (lntX vs (H.length+1) H') fun H'=>K (.exit n) l' H'
      | _=>False) else False
    | _=>False) else False)
  (fun z=>an.pre z->an.mu z=n->nG (base [] an.objs l) fun l₁=>qM (an.heap z H++ [.gone]) fun H₁=>K .normal l₁ H₁)) else False
def exec (P:Program) (Γ:List Con) (N:Nat) (A:Anns) (key:Nat) (c:Code):Wp:=
 Code.rec (motive:=fun _=>Nat->Wp)
  (fun _ l H K=>
    K .normal l H)
  (fun _ ops draw _ l H K=>
    match draw with
     | false=>pE P Γ N ops.toList ops.toList l H fun l' H'=>K .normal l' H'
     | true=>bif P.follows .mixedOrders&&Ah ops.toList (Qu ops.toList ops.size) then
      aB4 P Γ N ops.toList (Qu ops.toList ops.size) l H fun l' H'=>K .normal l' H'
     else False)
  (fun a b iha ihb key l H K=>
    match aB6 A b with
     | none=>iha key l H fun e l' H'=>match e with
      | .normal=>ihb key l' H' K
      | e=>K e l' H'
     | some an=>Need (Ue (gC a) (dI A key a) an H) (LoopVC Unit (fun _=>iha key l H fun e l' H'=>match e with
       | .normal=>∃x,vP an x H l' H'
       | e=>K e l' H')
      (fun _=>∀x,an.pre x->nG (annL an x (gC a) l H) fun l'=>qM (an.heap x H) fun H'=>ihb key l' H' K)))
  (fun c a b iha ihb key l H K=>
    match ev l c with
     | .val (.bool true)=>iha key l H K
     | .val (.bool false)=>ihb key l H K
     | .bl p _=>Br p (iha key l H K) (ihb key l H K)
     | _=>False)
  (fun id c ihc _ l H K=>
    ihc id l H fun e l' H'=>match e with
     | .exit n=>bif Nat.beq n id then K .normal l' H' else K (.exit n) l' H'
     | e=>K e l' H')
  (fun c ihc key l H K=>
    Ai A key (fun an=>Need (Ue (gC c) (dI A key c) an H) (LoopVC an.X (fun x=>vP an x H l H)
      (fun x=>an.pre x->nG (annL an x (gC c) l H) fun l₁=>qM (an.heap x H) fun H₁=>ihc key l₁ H₁ fun e l' H'=>match e with
       | .normal=>∃x',an.mu x'<an.mu x/\Dh an x' H l' H'
       | e=>K e l' H'))) (Fi (ihc key) A.rounds l H K))
  (fun g ps x y ihx ihy key l H K=>
    match ev l g with
     | .clo f [] caps=>Ai A key (fun an=>match Db Γ f with
      | none=>False
      | some c=>match Yt H caps with
       | some nk=>c.cl [.lelem [.sft none] 0] fun r=>hnf r fun r=>match r with
        | .itr n items=>bif !mem nk.1 an.objs then Need (Di nk.1 nk.2 n H/\∀z,an.pre z->Di nk.1 nk.2 n (an.heap z H)) (Fj N A key ps x y an n items l H (ihx key) (ihy key) K) else False
        | _=>False
       | none=>dA (jF H [.clo f [] caps]) fun H=>hnfL (caps.map (view false H)) fun as=>bif bare.bareL as then c.cl as fun r=>hnf r fun r=>match r with
        | .itr n items=>Fj N A key ps x y an n items l H (ihx key) (ihy key) K
        | _=>False
       else False) False
     | _=>False)
  (fun n _ l H K=>
    K (.exit n) l H)
  (fun _ _ _ _ _ _=>
    False)
  (fun _ _ l H K=>
    K .normal l H)
  (fun _ _ _ _ _=>
    False)
  (fun _ l H K=>
    K .ret l H)
  (fun _ _ _ _ _=>
    False)
  c key
theorem nH (P:Program) (Γ:List Con) (N:Nat) (A:Anns) (key:Nat) (i:Nat) (ops:Array Oper) (l:List (Nat × SV)) (H:List HO) (K:Exit->List (Nat × SV)->List HO->Prop):exec P Γ N A key (.region i ops false) l H K=(pE P Γ N ops.toList ops.toList l H fun l' H'=>K .normal l' H'):=rfl
theorem rI (P:Program) (Γ:List Con) (N:Nat) (A:Anns) (key:Nat) (i:Nat) (ops:Array Oper) (l:List (Nat × SV)) (H:List HO) (K:Exit->List (Nat × SV)->List HO->Prop):exec P Γ N A key (.region i ops true) l H K=(bif P.follows .mixedOrders&&Ah ops.toList (Qu ops.toList ops.size) then
   aB4 P Γ N ops.toList (Qu ops.toList ops.size) l H fun l' H'=>K .normal l' H'
  else False):=rfl
theorem uF (P:Program) (Γ:List Con) (N:Nat) (A:Anns) (key:Nat) (a:Code) (b:Code) (l:List (Nat × SV)) (H:List HO) (K:Exit->List (Nat × SV)->List HO->Prop):exec P Γ N A key (.seq a b) l H K=(match aB6 A b with
  | none=>exec P Γ N A key a l H fun e l' H'=>match e with
   | .normal=>exec P Γ N A key b l' H' K
   | e=>K e l' H'
  | some an=>Need (Ue (gC a) (dI A key a) an H) (LoopVC Unit (fun _=>exec P Γ N A key a l H fun e l' H'=>match e with
    | .normal=>∃x,vP an x H l' H'
    | e=>K e l' H')
   (fun _=>∀x,an.pre x->nG (annL an x (gC a) l H) fun l'=>qM (an.heap x H) fun H'=>exec P Γ N A key b l' H' K))):=rfl
theorem rJ (P:Program) (Γ:List Con) (N:Nat) (A:Anns) (key:Nat) (c:Operand) (a:Code) (b:Code) (l:List (Nat × SV)) (H:List HO) (K:Exit->List (Nat × SV)->List HO->Prop):exec P Γ N A key (.cond c a b) l H K=(match ev l c with
  | .val (.bool true)=>exec P Γ N A key a l H K
  | .val (.bool false)=>exec P Γ N A key b l H K
  | .bl p _=>Br p (exec P Γ N A key a l H K) (exec P Γ N A key b l H K)
  | _=>False):=rfl
theorem pU (P:Program) (Γ:List Con) (N:Nat) (A:Anns) (key:Nat) (id:Nat) (c:Code) (l:List (Nat × SV)) (H:List HO) (K:Exit->List (Nat × SV)->List HO->Prop):exec P Γ N A key (.block id c) l H K=(exec P Γ N A id c l H fun e l' H'=>match e with
  | .exit n=>bif Nat.beq n id then K .normal l' H' else K (.exit n) l' H'
  | e=>K e l' H'):=rfl
theorem rK (P:Program) (Γ:List Con) (N:Nat) (A:Anns) (key:Nat) (c:Code) (l:List (Nat × SV)) (H:List HO) (K:Exit->List (Nat × SV)->List HO->Prop):exec P Γ N A key (.loop c) l H K=(Ai A key (fun an=>Need (Ue (gC c) (dI A key c) an H) (LoopVC an.X (fun x=>vP an x H l H)
   (fun x=>an.pre x->nG (annL an x (gC c) l H) fun l₁=>qM (an.heap x H) fun H₁=>exec P Γ N A key c l₁ H₁ fun e l' H'=>match e with
    | .normal=>∃x',an.mu x'<an.mu x/\Dh an x' H l' H'
    | e=>K e l' H'))) (Fi (exec P Γ N A key c) A.rounds l H K)):=rfl
theorem jU (P:Program) (Γ:List Con) (N:Nat) (A:Anns) (key:Nat) (g:Operand) (ps:Array Tmp) (x:Code) (y:Code) (l:List (Nat × SV)) (H:List HO) (K:Exit->List (Nat × SV)->List HO->Prop):exec P Γ N A key (.rangeFunc g ps x y) l H K=(match ev l g with
  | .clo f [] caps=>Ai A key (fun an=>match Db Γ f with
   | none=>False
   | some c=>match Yt H caps with
    | some nk=>c.cl [.lelem [.sft none] 0] fun r=>hnf r fun r=>match r with
     | .itr n items=>bif !mem nk.1 an.objs then Need (Di nk.1 nk.2 n H/\∀z,an.pre z->Di nk.1 nk.2 n (an.heap z H)) (Fj N A key ps x y an n items l H (exec P Γ N A key x) (exec P Γ N A key y) K) else False
     | _=>False
    | none=>dA (jF H [.clo f [] caps]) fun H=>hnfL (caps.map (view false H)) fun as=>bif bare.bareL as then c.cl as fun r=>hnf r fun r=>match r with
     | .itr n items=>Fj N A key ps x y an n items l H (exec P Γ N A key x) (exec P Γ N A key y) K
     | _=>False
    else False) False
  | _=>False):=rfl
def yW (P:Program) (l:List (Nat × SV)) (H:List HO):List ResultVar->Option (List SV)
 | []=>some []
 | .tmp t::r=>match yW P l H r with
  | some vs=>some (look l t::vs)
  | none=>none
 | .cell a t::r=>match look l a,aggB P t,jS P t,yW P l H r with
  | .ptr nm off,some ag,some sz,some vs=>match hget H nm with
   | .cells cs _=>match ag with
    | true=>bif Nat.ble (off+sz) cs.length then some (.agg ((cs.drop off).take sz)::vs) else none
    | false=>bif Nat.blt off cs.length then some (cs.getD off .any::vs) else none
   | _=>none
  | _,_,_,_=>none
def Bk (l:List SV):SV:=
 match l with
 | [v]=>v
 | vs=>.tup vs
def Dj (H:List HO):SV->SV
 | .ref nm ver=>match hget H nm with
  | .vec v t xs _=>bif Nat.beq v ver&&t.flat then .seq t xs else .any
  | .vv v _ t xss none _ _=>bif Nat.beq v ver then .seq (.slice t) xss else .any
  | _=>.any
 | .val v=>.val v
 | .bl p d=>.bl p d
 | .str s=>.str s
 | .ifc=>.ifc
 | _=>.any
def aGy (H:List HO):SV->SV
 | .agg l=>.agg (l.map (Dj H))
 | .tup l=>.tup (l.map fun s=>match s with
   | .agg l=>.agg (l.map (Dj H))
   | s=>Dj H s)
 | s=>Dj H s
def finV (P:Program) (fresh:Bool) (rs:List ResultVar) (r:SV) (l:List (Nat × SV)) (H:List HO):Prop:=
 match yW P l H rs with
 | some vs=>bif fresh then ent (aGy H (Bk vs)) r else dA (jF H vs) fun H'=>ent (Je false H' (Bk vs)) r
 | none=>False
def fin (P:Program) (fresh:Bool) (rs:List ResultVar) (r:SV):Exit->List (Nat × SV)->List HO->Prop
 | .normal,l,H=>finV P fresh rs r l H
 | .ret,l,H=>finV P fresh rs r l H
 | _,_,_=>False
def Bl:List SV->Nat->List (Nat × SV)
 | [],_=>[]
 | x::r,n=>(n,x)::Bl r (n+1)
def body (P:Program) (Γ:List Con) (A:Anns) (fresh:Bool) (fn:Func) (args:List SV) (r:SV):Prop:=
 match fn.body with
 | some c=>exec P Γ fn.ntmps A 0 c (Bl args 0) [] (fin P fresh fn.results.toList r)
 | none=>False
def finL (P:Program) (A:Anns) (c:Code) (same:Bool) (rs:List ResultVar) (r:SV) (t:Ty) (ys:List t.T) (e:TypeId):Exit->List (Nat × SV)->List HO->Prop
 | .normal,l,H=>endL l H
 | .ret,l,H=>endL l H
 | _,_,_=>False
where endL (l:List (Nat × SV)) (H:List HO):Prop:=match yW P l H rs,hget H 0 with
 | some vs,.vec k t' zs e'=>(bif same then Nat.beq k 1&& !mem 0 (dI A 0 c) else true)=true/\e'=e/\Bj t' t zs ys/\(match r with
   | .ref 0 1=>(match Bk vs with
    | .ref 0 k'=>k'=k
    | _=>False)
   | r=>plain r=true/\ent (Bk vs) r)
 | _,_=>False
def Ui (P:Program) (Γ:List Con) (A:Anns) (fn:Func) (pos:Nat) (same:Bool) (args:List SV) (t:Ty) (xs:List t.T) (e:TypeId) (r:SV) (ys:List t.T):Prop:=
 match fn.body with
 | some c=>exec P Γ fn.ntmps A 0 c (Bl (args.set pos (.ref 0 1)) 0) [.vec 1 t xs e] (finL P A c same fn.results.toList r t ys e)
 | none=>False
def renb (nm k:Nat):SV->SV
 | .ref n j=>bif Nat.beq n nm&&Nat.beq j k then .ref 0 1 else .any
 | s=>bif plain s then s else .any
def Uj:List SV->Option (Nat × Nat)
 | []=>none
 | .ref n j:: _=>some (n,j)
 | _::r=>Uj r
def finO (P:Program) (rs:List ResultVar) (r:SV) (t:Ty) (ys:List t.T) (e:TypeId):Exit->List (Nat × SV)->List HO->Prop
 | .normal,l,H=>endO l H
 | .ret,l,H=>endO l H
 | _,_,_=>False
where endO (l:List (Nat × SV)) (H:List HO):Prop:=match yW P l H rs with
 | some vs=>match Uj vs with
  | some (nm,k)=>(match hget H nm with
   | .vec k' t' zs e'=>k'=k/\e'=e/\Bj t' t zs ys/\ent (Bk (vs.map (renb nm k))) r
   | _=>False)
  | none=>(match vs with
   | [.val (.slice none 0 0)]=>r= .ref 0 1/\List.length (α:=t.T) ys=0
   | _=>False)
 | none=>False
def Uk (P:Program) (Γ:List Con) (A:Anns) (fn:Func) (args:List SV) (r:SV) (t:Ty) (ys:List t.T) (e:TypeId):Prop:=
 match fn.body with
 | some c=>exec P Γ fn.ntmps A 0 c (Bl args 0) [] (finO P fn.results.toList r t ys e)
 | none=>False
def finH (P:Program) (rs:List ResultVar) (R:SV->List HO->Prop) (H0:List HO):Exit->List (Nat × SV)->List HO->Prop
 | .normal,l,H=>endH l H
 | .ret,l,H=>endH l H
 | _,_,_=>False
where endH (l:List (Nat × SV)) (H:List HO):Prop:=match yW P l H rs with
 | some vs=>∃s H',R s H'/\plain s=true/\ent (Bk vs) s/\H'.length=H0.length/\Gy H0 H'=true/\entH [] H H' H0.length 0 H H'
 | none=>False
def wA (P:Program) (Γ:List Con) (A:Anns) (fn:Func) (args:List SV) (H:List HO) (R:SV->List HO->Prop):Prop:=
 match fn.body with
 | some c=>Need (rH [] H.length (dI A 0 c)=true) (exec P Γ fn.ntmps A 0 c (Bl args 0) H (finH P fn.results.toList R H))
 | none=>False
def finI (P:Program) (rs:List ResultVar):Exit->List (Nat × SV)->List HO->Prop
 | .normal,l,H=>endI l H
 | .ret,l,H=>endI l H
 | _,_,_=>False
where endI (l:List (Nat × SV)) (H:List HO):Prop:=match rs,hget H 0 with
 | [],.yst (some k) n _=>k=n
 | [],.yst none _ _=>True
 | _,_=>False
def Jv (P:Program) (Γ:List Con) (A:Anns) (fn:Func) (args:List SV) (n:Nat) (items:Nat->List SV):Prop:=
 match fn.body with
 | some c=>exec P Γ fn.ntmps A 0 c (Bl (.yld 0::args) 0) [.yst (some 0) n items] (finI P fn.results.toList)
 | none=>False
theorem Zg {p C:Prop} (h:p->C):Giv p C:=⟨h⟩
theorem Zn {p C:Prop} (k:C) (h:p:=by first | omega | (intro _;rfl) | assumption | (simp<;>omega)):Need p C:=⟨h,k⟩
theorem Za {p C B:Prop} (k:C) (h:p:=by omega):Alt (Need p C) B:=.l ⟨h,k⟩
theorem Zb {p C A:Prop} (k:C) (h:p:=by omega):Alt A (Need p C):=.r ⟨h,k⟩
theorem Z0 {C:Nat->Prop} (h:C 0):Ix 0 C:=.zero h
theorem Z1 {C:Nat->Prop} (h:C 1):Ix 1 C:=.one h
theorem Z2 {C:Nat->Prop} (h:C 2):Ix 2 C:=.two h
theorem Zj {j:Nat} {C:Nat->Prop} (h:C j):Ix (j:Int) C:=.nat h
theorem Zk {j:Nat} {C:Nat->Prop} (h:C (j+1)):Ix ((j:Int)+1) C:=.add h
theorem Zy {p A B:Prop} (k:A) (h:p:=by first | omega | assumption):Br p A B:=.mkY h k
theorem Zm {p A B:Prop} (k:B) (h:¬p:=by first | omega | assumption | exact bI (by assumption)):Br p A B:=.mkN h k
theorem Zr {p A B:Prop} (h:p->A) (k:¬p->B):Br p A B:=⟨h,k⟩
theorem Zl {A B:Prop} (h:A):Own A B:=.l h
theorem Zo {A B:Prop} (h:B):Own A B:=.r h
theorem Zc {p C:Prop} (h:p) (k:C):Chk p C:=⟨h,k⟩
theorem Zf:Fin0:=⟨⟩
theorem Z8 {n:Int} {C:Prop} (k:C) (h:0<=n/\n<=1000000:=by omega):Need (0<=n/\n<=n/\n<=140737488355328/\n*((8:Nat):Int)<=140737488355328) C:=⟨om,k⟩
structure Hid (B:Prop):Prop where
 go:B
theorem ZG {A B:Prop} (b:B) (h:Hid B->A:=by (intro hB;(conv=>whnf);(first|refine Za ?_|refine Zb ?_|refine Zn ?_|refine Z0 ?_|refine Z1 ?_|refine Z2 ?_|refine Zj ?_|refine Zk ?_|refine Alt.h ?_|refine Alt.r ?_|refine Zl ?_|refine Z8 ?_|fail);(repeat ((conv=>whnf);first|refine Za ?_|refine Zb ?_|refine Zn ?_|refine Z0 ?_|refine Z1 ?_|refine Z2 ?_|refine Zj ?_|refine Zk ?_|refine Alt.h ?_|refine Alt.r ?_|refine Zl ?_|refine Z8 ?_|fail));exact hB.go)):A:=h ⟨b⟩
theorem ZN {A B:Prop} (b:B) (h:Hid B->A:=by (intro hB;(conv=>whnf);(first|refine Za ?_|refine Zb ?_|refine Zn ?_|refine Z0 ?_|refine Z1 ?_|refine Z2 ?_|refine Zj ?_|refine Zk ?_|refine Alt.h ?_|refine Alt.r ?_|refine Z8 ?_|fail);(repeat ((conv=>whnf);first|refine Za ?_|refine Zb ?_|refine Zn ?_|refine Z0 ?_|refine Z1 ?_|refine Z2 ?_|refine Zj ?_|refine Zk ?_|refine Alt.h ?_|refine Alt.r ?_|refine Z8 ?_|fail));exact hB.go)):A:=h ⟨b⟩
theorem ZP {A B:Prop} (b:B) (h:Hid B->A:=by (intro hB;(conv=>whnf);(first|refine Za ?_|refine Zb ?_|refine Zn ?_|refine Z0 ?_|refine Z1 ?_|refine Z2 ?_|refine Zj ?_|refine Zk ?_|refine Alt.h ?_|refine Alt.r ?_|refine Zo ?_|refine Z8 ?_|fail);(repeat ((conv=>whnf);first|refine Za ?_|refine Zb ?_|refine Zn ?_|refine Z0 ?_|refine Z1 ?_|refine Z2 ?_|refine Zj ?_|refine Zk ?_|refine Alt.h ?_|refine Alt.r ?_|refine Zo ?_|refine Z8 ?_|fail));exact hB.go)):A:=h ⟨b⟩
theorem ZR {A B:Prop} (b:B) (h:Hid B->A:=by (intro hB;(conv=>whnf);(first|refine Za ?_|refine Zb ?_|refine Zn ?_|refine Z0 ?_|refine Z1 ?_|refine Z2 ?_|refine Zj ?_|refine Zk ?_|refine Alt.h ?_|refine Alt.r ?_|refine Zl ?_|refine Zy ?_|refine Zm ?_|refine Z8 ?_|fail);(repeat ((conv=>whnf);first|refine Za ?_|refine Zb ?_|refine Zn ?_|refine Z0 ?_|refine Z1 ?_|refine Z2 ?_|refine Zj ?_|refine Zk ?_|refine Alt.h ?_|refine Alt.r ?_|refine Zl ?_|refine Zy ?_|refine Zm ?_|refine Z8 ?_|fail));exact hB.go)):A:=h ⟨b⟩
theorem ZX {A B:Prop} (b:B) (h:Hid B->A:=by (intro hB;(conv=>whnf);(first|refine Za ?_|refine Zb ?_|refine Zn ?_|refine Z0 ?_|refine Z1 ?_|refine Z2 ?_|refine Zj ?_|refine Zk ?_|refine Alt.h ?_|refine Alt.r ?_|refine Zy ?_|refine Zm ?_|refine Z8 ?_|fail);(repeat ((conv=>whnf);first|refine Za ?_|refine Zb ?_|refine Zn ?_|refine Z0 ?_|refine Z1 ?_|refine Z2 ?_|refine Zj ?_|refine Zk ?_|refine Alt.h ?_|refine Alt.r ?_|refine Zy ?_|refine Zm ?_|refine Z8 ?_|fail));exact hB.go)):A:=h ⟨b⟩
theorem ZH {A B:Prop} (b:B) (h:Hid B->A:=by (intro hB;(conv=>whnf);(first|refine Alt.h ?_|refine Za ?_|refine Zb ?_|refine Zn ?_|refine Z0 ?_|refine Z1 ?_|refine Z2 ?_|refine Zj ?_|refine Zk ?_|refine Alt.r ?_|refine Zl ?_|refine Zy ?_|refine Zm ?_|refine Z8 ?_|fail);(repeat ((conv=>whnf);first|refine Alt.h ?_|refine Za ?_|refine Zb ?_|refine Zn ?_|refine Z0 ?_|refine Z1 ?_|refine Z2 ?_|refine Zj ?_|refine Zk ?_|refine Alt.r ?_|refine Zl ?_|refine Zy ?_|refine Zm ?_|refine Z8 ?_|fail));exact hB.go)):A:=h ⟨b⟩
abbrev maxL:Nat:=140737488355328
def WV:Value->Prop
 | .int k n=>inK k n
 | _=>True
def Reads (w:World) (ok:Nat->Prop):(t:Ty)->t.T->List Value->Prop
 | .int k,n,cs=>cs= [.int k n]/\inK k n
 | .bool,b,cs=>cs= [.bool b]
 | .str,s,cs=>cs= [.string ⟨s.toArray⟩]/\s.length<=maxL
 | .pair a b,x,cs=>∃c1 c2,cs=c1++c2/\Reads w ok a x.1 c1/\Reads w ok b x.2 c2
 | .slice t,xs,cs=>∃a n c,cs= [.slice a n c]/\n=List.length (α:=t.T) xs/\n<=c/\n<=maxL/\
   (0<n->∃b off,a=some ⟨b,off,none⟩/\ok b/\∀i,i<n->∃es,es.length=t.size/\w.rangeAt b (off+i*t.size) es/\Reads w ok t (List.getD (α:=t.T) xs i t.dflt) es)
theorem Reads.length {w:World} {ok:Nat->Prop} {t:Ty} {x:t.T} {cs:List Value} (h:Reads w ok t x cs):cs.length=t.size:=by
 induction t generalizing cs with
 | int k=>obtain ⟨rfl,_⟩:=h;rfl
 | bool=>cases h;rfl
 | str=>obtain ⟨rfl,_⟩:=h;rfl
 | pair a b iha ihb=>obtain ⟨c1,c2,rfl,h1,h2⟩:=h;simp[Ty.size,iha h1,ihb h2]
 | slice t _=>obtain ⟨a,n,c,rfl,_⟩:=h;rfl
theorem Reads.mono {w w':World} {ok ok':Nat->Prop} (hc:∀a v,ok a.block->w.cell? a=some v->w'.cell? a=some v) (hk:∀b,ok b->ok' b) {t:Ty} {x:t.T} {cs:List Value} (h:Reads w ok t x cs):Reads w' ok' t x cs:=by
 induction t generalizing cs with
 | int k=>exact h
 | bool=>exact h
 | str=>exact h
 | pair a b iha ihb=>obtain ⟨c1,c2,e,h1,h2⟩:=h;exact ⟨c1,c2,e,iha h1,ihb h2⟩
 | slice t ih=>
  obtain ⟨a,n,c,e,hn,hnc,hm,hr⟩:=h;refine ⟨a,n,c,e,hn,hnc,hm,fun h0=>?_⟩;obtain ⟨b,off,ha,hok,hi⟩:=hr h0;refine ⟨b,off,ha,hk b hok,fun i hlt=>?_⟩;obtain ⟨es,h1,h2,h3⟩:=hi i hlt;exact ⟨es,h1,fun j v hj=>hc _ v hok (h2 j v hj),ih h3⟩
structure Sub where
 v:Nat
 rows:Nat->Value
 pnd:Value
 snap:Nat->Option Obj
abbrev sub0:Sub:=⟨0,fun _=>.slice none 0 0,.slice none 0 0,fun _=>none⟩
structure Core where
 blk:Option (Nat × Nat)
 len:Nat
 cap:Nat
structure Loc extends Core where
 al:Nat->Prop
 sub:Sub
abbrev mkL (b:Option (Nat × Nat)) (n c:Nat):Loc:=⟨⟨b,n,c⟩,fun _=>False,sub0⟩
def Core.head (L:Core):Value:=.slice (L.blk.map fun p=>⟨p.1,p.2,none⟩) L.len L.cap
def softC (n:Nat) (c:Core) (W:World):Prop:=c.len=n/\n<=maxL/\(n=0\/∃g cur e fz,c.blk=some (g,0)/\n<=c.cap/\W.heap[g]? =some (.cells cur e fz)/\n<=cur.size)
structure Itr where
 on:Bool
 l:Nat
 n0:Nat
 ok:Nat->Prop
 n:Nat
 items:Nat->List SV
 J:Option Nat->(Nat->Prop)->World->Prop
 abides:∀st M W W',J st M W->W'.os=W.os->W'.tape=W.tape->W'.output=W.output->W.heap.size<=W'.heap.size->
  (∀b,b<W.heap.size->¬M b->W'.heap[b]? =W.heap[b]?)->J st (fun b=>M b\/(W.heap.size<=b/\b<W'.heap.size)) W'
 soft:Bool
 sf:Core
 softJ:soft=true->∀k M W,J (some k) M W->softC n sf W
def itr0:Itr:=⟨false,0,0,fun _=>False,0,fun _=>[],fun _ _ _=>True,fun _ _ _ _ h _ _ _ _ _=>h,false,⟨none,0,0⟩,fun h=>by cases h⟩
def Itr.sv (t:Itr) (i:Option Nat) (v:Value):Prop:=t.soft=true/\match i with
 | none=>v=t.sf.head
 | some i=>∃b,t.sf.blk=some (b,0)/\v= .pointer (some ⟨b,i,none⟩)
instance:Inhabited Loc:=⟨mkL none 0 0⟩
structure Env where
 w:World
 ok:Nat->Prop
 has:Nat->Bool
 loc:Nat->Loc
 ver:Nat->Nat
 gho:Nat->Nat->Prop
 ali:Nat->Prop
 itr:Itr
def keyV (k:Int × Int):Value:=.agg ⟨[.int .i64 k.1,.int .i64 k.2]⟩
structure KeysR (ks:List (Int × Int)) (es:List MapEntry):Prop where
 eq:es.map (·.key)=ks.map keyV
 rng:∀k∈ks,inK .i64 k.1/\inK .i64 k.2
 nd:ks.Pairwise (· ≠ ·)
structure QmR (ks:List (Int × Int)) (es:List MapEntry) (c:Nat):Prop where
 keys:KeysR ks es
 born:es.map (·.born)=List.range es.length
 clock:c=es.length
mutual
inductive Rel (E:Env):SV->Value->Prop
 | any (v:Value):Rel E .any v
 | val (v:Value) (h:WV v):Rel E (.val v) v
 | bl (p:Prop) (d:Decidable p):Rel E (.bl p d) (.bool (@decide p d))
 | str (s:Bx) (h:s.length<=maxL):Rel E (.str s) (.string ⟨s.toArray⟩)
 | seq (t:Ty) (xs:List t.T) (v:Value) (h:Reads E.w E.ok (.slice t) xs [v]):Rel E (.seq t xs) v
 | lit (es n b off:Nat) (l:List SV) (vs:List Value) (hl:RelL E l vs) (hn:vs.length=n*es) (hok:E.ok b) (hr:E.w.rangeAt b off vs):Rel E (.lit es l) (.slice (some ⟨b,off,none⟩) n n)
 | elem (t:Ty) (xs:List t.T) (i o b off:Nat) (es:List Value) (hi:i<xs.length) (hok:E.ok b) (hr:E.w.rangeAt b off es) (h:Reads E.w E.ok t (xs.getD i t.dflt) es):Rel E (.elem t xs i o) (.pointer (some ⟨b,off+o,none⟩))
 | lelem (l:List SV) (i b off:Nat) (vs:List Value) (hl:RelL E l vs) (hok:E.ok b) (hr:E.w.rangeAt b off vs):Rel E (.lelem l i) (.pointer (some ⟨b,off+i,none⟩))
 | ptr (nm off:Nat) (v:Value) (hn:E.has nm=true) (h:E.ver nm=0->∃b,(E.loc nm).blk=some (b,0)/\v= .pointer (some ⟨b,off,none⟩)):Rel E (.ptr nm off) v
 | ref (nm k:Nat) (v:Value) (hn:E.has nm=true) (h0:0<k) (hk:k<=E.ver nm) (h:k=E.ver nm->v=(E.loc nm).head):Rel E (.ref nm k) v
 | vptr (nm k i z o:Nat) (v:Value) (hn:E.has nm=true) (h0:0<k) (hk:k<=E.ver nm) (h:k=E.ver nm->i<(E.loc nm).len/\∃b off,(E.loc nm).blk=some (b,off)/\v= .pointer (some ⟨b,off+i*z+o,none⟩)):Rel E (.vptr nm k i z o) v
 | wide (nm k:Nat) (v:Value) (hn:E.has nm=true) (h0:0<k) (hk:k<=E.ver nm) (h:k=E.ver nm->∃n,n<=(E.loc nm).cap/\v= .slice ((E.loc nm).blk.map fun p=>⟨p.1,p.2,none⟩) n (E.loc nm).cap):Rel E (.wide nm k) v
 | agg (l:List SV) (vs:List Value) (hl:RelL E l vs):Rel E (.agg l) (.agg ⟨vs⟩)
 | tup (l:List SV) (vs:List Value) (hl:RelL E l vs):Rel E (.tup l) (.tuple ⟨vs⟩)
 | clo (f:FuncId) (a b:List SV) (va vb:List Value) (ha:RelL E a va) (hb:RelL E b vb):Rel E (.clo f a b) (.func (.func f) ⟨va⟩ ⟨vb⟩)
 | yld (l:Nat) (h:E.itr.on=true):Rel E (.yld l) (.func (.yield E.itr.l) #[] #[])
 | mp (nm:Nat) (v:Value) (hn:E.has nm=true) (h:E.ver nm=0->∃b,(E.loc nm).blk=some (b,0)/\v= .map (some b)):Rel E (.mp nm) v
 | sub (nm k s i:Nat) (v:Value) (hn:E.has nm=true) (h0:0<k) (hk:k<=E.ver nm) (hs:k=E.ver nm->s<=(E.loc nm).sub.v) (h:k=E.ver nm->s=(E.loc nm).sub.v->v=(E.loc nm).sub.rows i):Rel E (.sub nm k s i) v
 | subp (nm k s:Nat) (v:Value) (hn:E.has nm=true) (h0:0<k) (hk:k<=E.ver nm) (hs:k=E.ver nm->s<=(E.loc nm).sub.v) (h:k=E.ver nm->s=(E.loc nm).sub.v->v=(E.loc nm).sub.pnd):Rel E (.subp nm k s) v
 | part (nm k i j z:Nat) (v:Value) (hn:E.has nm=true) (h0:0<k) (hk:k<=E.ver nm) (h:k=E.ver nm->i<=j/\j<=(E.loc nm).len/\v= .slice (if (E.loc nm).cap=i then (E.loc nm).blk.map (fun p=>(⟨p.1,p.2,none⟩:Addr)) else ((E.loc nm).blk.map fun p=>(⟨p.1,p.2,none⟩:Addr)).map (·.add (i*z))) (j-i) ((E.loc nm).cap-i)):Rel E (.part nm k i j z) v
 | lim (nm k i z:Nat) (v:Value) (hn:E.has nm=true) (h0:0<k) (hk:k<=E.ver nm) (h:k=E.ver nm->i<=(E.loc nm).len/\v= .slice ((E.loc nm).blk.map fun p=>(⟨p.1,p.2,none⟩:Addr)) i i):Rel E (.lim nm k i z) v
 | ifc (v:Value) (h:v= .nilIface\/∃t x,v= .iface t x):Rel E .ifc v
 | wcel (n:Int) (b:Nat) (e:TypeId) (hw:WV (.int .i64 n)) (hok:E.ok b) (hr:E.w.heap[b]? =some (.cells ⟨[.int .i64 n]⟩ e (0,0))):Rel E (.wcel n) (.pointer (some ⟨b,0,none⟩))
 | sft (i:Option Nat) (v:Value) (h:E.itr.on=true) (hv:E.itr.sv i v):Rel E (.sft i) v
 | fmp (ks:List (Int × Int)) (l:List SV) (b c:Nat) (es:List MapEntry) (hok:E.ok b) (hb:E.w.heap[b]? =some (.map ⟨es⟩ c)) (hk:KeysR ks es) (hl:RelL E l (es.map (·.val))):Rel E (.fmp ks l) (.map (some b))
inductive RelL (E:Env):List SV->List Value->Prop
 | nil:RelL E [] []
 | cons (s:SV) (v:Value) (l:List SV) (vs:List Value) (h:Rel E s v) (hl:RelL E l vs):RelL E (s::l) (v::vs)
end
def isBook:Obj->Bool
 | .deferred _=>true
 | .loop _=>true
 | _=>false
structure Ext0 (E E':Env):Prop where
 blk:∀b,E.ok b->E'.w.heap[b]? =E.w.heap[b]?
 ok:∀b,E.ok b->E'.ok b
 num:∀nm,E.has nm=true->E'.has nm=true
 ver:∀nm,E.has nm=true->(E'.ver nm=E.ver nm/\(E'.loc nm).toCore=(E.loc nm).toCore)\/(0<E.ver nm/\E.ver nm<E'.ver nm)
 os:E'.w.os=E.w.os
 tape:E'.w.tape=E.w.tape
 output:E'.w.output=E.w.output
 size:E.w.heap.size<=E'.w.heap.size
 ali:∀b,E'.ali b->E.ali b\/E.w.heap.size<=b
 itr:E'.itr=E.itr
 sub:∀nm,E.has nm=true->E'.ver nm=E.ver nm->(E'.loc nm).sub=(E.loc nm).sub\/(E.loc nm).sub.v<(E'.loc nm).sub.v
structure Ext (E E':Env):Prop extends Ext0 E E' where
 keep:∀(k:Nat) (o:Obj),¬E.ali k->E.w.heap[k]? =some o->isBook o=true->E'.w.heap[k]? =some o
 gho:∀nm b,E.gho nm b->E'.gho nm b/\E'.w.heap[b]? =E.w.heap[b]?
 gho':∀nm b,E.has nm=true->E'.gho nm b->E.gho nm b
theorem Ext0.cell {E E':Env} (x:Ext0 E E'):∀a v,E.ok a.block->E.w.cell? a=some v->E'.w.cell? a=some v:=
 fun a v ho hc=>(World.cell?_of_block (x.blk _ ho)).trans hc
theorem Ext.cell {E E':Env} (x:Ext E E'):∀a v,E.ok a.block->E.w.cell? a=some v->E'.w.cell? a=some v:=x.toExt0.cell
theorem Ext.refl (E:Env):Ext E E:=⟨⟨fun _ _=>rfl,fun _ h=>h,fun _ h=>h,fun _ _=>.inl ⟨rfl,rfl⟩,rfl,rfl,rfl,aN _,fun _ h=>.inl h,rfl,fun _ _ _=>.inl rfl⟩,fun _ _ _ h _=>h,fun _ _ h=>⟨h,rfl⟩,fun _ _ _ h=>h⟩
theorem yX {E E':Env} (x:Ext0 E E') {b off:Nat} {vs:List Value} (hok:E.ok b) (h:E.w.rangeAt b off vs):E'.w.rangeAt b off vs:=fun j v hj=>x.cell _ v hok (h j v hj)
def isCM:Obj->Bool
 | .cells _ _ _=>true
 | .map _ _=>true
 | _=>false
def KeepC (E E':Env):Prop:=∀b o,E.ok b->E.w.heap[b]? =some o->isCM o=true->E'.w.heap[b]? =some o
theorem aB8 (l:List SV) (off:Nat):(∃n,frcV l off= .wcel n/\l= [.val (.int .i64 n)]/\off=0)\/frcV l off= .lelem l off:=by
 unfold frcV;split
 ·exact .inl ⟨_,rfl,rfl,rfl⟩
 exact .inr rfl
theorem Ul {E:Env} {l:List SV} {off b:Nat} {vs:List Value} {e:TypeId} (hl:RelL E l vs) (hok:E.ok b) (hr:E.w.heap[b]? =some (.cells ⟨vs⟩ e (0,0))):Rel E (frcV l off) (.pointer (some ⟨b,off,none⟩)):=by
 rcases aB8 l off with ⟨n,e1,rfl,rfl⟩ | e1
 ·rw[e1];cases hl with
  | cons _ v _ vs hv hn=>
   cases hn;cases hv with
   | val _ hw=>exact .wcel n b e hw hok hr
 rw[e1];have:=Rel.lelem (E:=E) l off b 0 vs hl hok (fun j v hj=>by simp only[World.cell?,hr];simpa using hj);rwa [eJ] at this
theorem KeepC.cell {E E':Env} (h:KeepC E E'):∀a v,E.ok a.block->E.w.cell? a=some v->E'.w.cell? a=some v:=by
 intro a v ho hc;unfold World.cell? at hc ⊢;split at hc
 ·rename_i c e f hb;rw[h _ _ ho hb rfl];exact hc
 cases hc
theorem Ext0.keepC {E E':Env} (x:Ext0 E E'):KeepC E E':=fun b _ hb h _=>(x.blk b hb).trans h
mutual
theorem Rel.ext0 {E E':Env} (x:Ext0 E E') {s:SV} {v:Value} (h:Rel E s v):Rel E' s v:=by
 cases h with
 | any=>exact .any v
 | val _ h=>exact .val v h
 | bl p d=>exact .bl p d
 | str s h=>exact .str s h
 | seq t xs _ h=>exact .seq t xs v (h.mono x.cell x.ok)
 | lit es n b off l vs hl hn hok hr=>exact .lit es n b off l vs (hl.ext0 x) hn (x.ok _ hok) (yX x hok hr)
 | elem t xs i o b off es hi hok hr h=>exact .elem t xs i o b off es hi (x.ok _ hok) (yX x hok hr) (h.mono x.cell x.ok)
 | lelem l i b off vs hl hok hr=>exact .lelem l i b off vs (hl.ext0 x) (x.ok _ hok) (yX x hok hr)
 | ptr nm off _ hn h=>
  refine .ptr nm off v (x.num nm hn) fun h0=>?_;rcases x.ver nm hn with ⟨e1,e2⟩ | ⟨e1,e2⟩
  ·rw[e1] at h0;obtain ⟨b,hb,hv⟩:=h h0;exact ⟨b,by rw[e2];exact hb,hv⟩
  omega
 | ref nm k _ hn h0 hk h=>
  rcases x.ver nm hn with ⟨e1,e2⟩ | ⟨e1,e2⟩
  ·exact .ref nm k v (x.num nm hn) h0 om fun e=>by rw[e2];exact h om
  exact .ref nm k v (x.num nm hn) h0 om fun e=>om
 | vptr nm k i z o _ hn h0 hk h=>
  rcases x.ver nm hn with ⟨e1,e2⟩ | ⟨e1,e2⟩
  ·exact .vptr nm k i z o v (x.num nm hn) h0 om fun e=>by rw[e2];exact h om
  exact .vptr nm k i z o v (x.num nm hn) h0 om fun e=>om
 | wide nm k _ hn h0 hk h=>
  rcases x.ver nm hn with ⟨e1,e2⟩ | ⟨e1,e2⟩
  ·exact .wide nm k v (x.num nm hn) h0 om fun e=>by rw[e2];exact h om
  exact .wide nm k v (x.num nm hn) h0 om fun e=>om
 | agg l vs hl=>exact .agg l vs (hl.ext0 x)
 | tup l vs hl=>exact .tup l vs (hl.ext0 x)
 | clo f a b va vb ha hb=>exact .clo f a b va vb (ha.ext0 x) (hb.ext0 x)
 | yld l h=>rw[<- x.itr] at h ⊢;exact .yld l h
 | sft i _ h hv=>rw[<- x.itr] at h hv;exact .sft i v h hv
 | mp nm _ hn h=>
  refine .mp nm v (x.num nm hn) fun h0=>?_;rcases x.ver nm hn with ⟨e1,e2⟩ | ⟨e1,e2⟩
  ·rw[e1] at h0;obtain ⟨b,hb,hv⟩:=h h0;exact ⟨b,by rw[e2];exact hb,hv⟩
  omega
 | sub nm k s i _ hn h0 hk hs h=>
  rcases x.ver nm hn with ⟨e1,e2⟩ | ⟨e1,e2⟩
  ·have e3:=x.sub nm hn e1;refine .sub nm k s i v (x.num nm hn) h0 om (fun e=>?_) (fun e e4=>?_)
   ·have:=hs om;rcases e3 with e3 | e3
    ·rw[e3];exact this
    omega
   have h5:=hs om;rcases e3 with e3 | e3
   ·rw[e3] at e4 ⊢;exact h om e4
   omega
  exact .sub nm k s i v (x.num nm hn) h0 om (fun e=>om) (fun e=>om)
 | part nm k i j z _ hn h0 hk h=>
  rcases x.ver nm hn with ⟨e1,e2⟩ | ⟨e1,e2⟩
  ·exact .part nm k i j z v (x.num nm hn) h0 om fun e=>by rw[e2];exact h om
  exact .part nm k i j z v (x.num nm hn) h0 om fun e=>om
 | lim nm k i z _ hn h0 hk h=>
  rcases x.ver nm hn with ⟨e1,e2⟩ | ⟨e1,e2⟩
  ·exact .lim nm k i z v (x.num nm hn) h0 om fun e=>by rw[e2];exact h om
  exact .lim nm k i z v (x.num nm hn) h0 om fun e=>om
 | ifc _ h=>exact .ifc v h
 | wcel n b e hw hok hr=>exact .wcel n b e hw (x.ok _ hok) ((x.blk _ hok).trans hr)
 | fmp ks l b c es hok hb hk hl=>exact .fmp ks l b c es (x.ok _ hok) ((x.blk _ hok).trans hb) hk (hl.ext0 x)
 | subp nm k s _ hn h0 hk hs h=>
  rcases x.ver nm hn with ⟨e1,e2⟩ | ⟨e1,e2⟩
  ·have e3:=x.sub nm hn e1;refine .subp nm k s v (x.num nm hn) h0 om (fun e=>?_) (fun e e4=>?_)
   ·have:=hs om;rcases e3 with e3 | e3
    ·rw[e3];exact this
    omega
   have h5:=hs om;rcases e3 with e3 | e3
   ·rw[e3] at e4 ⊢;exact h om e4
   omega
  exact .subp nm k s v (x.num nm hn) h0 om (fun e=>om) (fun e=>om)
theorem RelL.ext0 {E E':Env} (x:Ext0 E E') {l:List SV} {vs:List Value} (h:RelL E l vs):RelL E' l vs:=by
 cases h with
 | nil=>exact .nil
 | cons s v l vs h hl=>exact .cons s v l vs (h.ext0 x) (hl.ext0 x)
end
theorem Rel.ext {E E':Env} (x:Ext E E') {s:SV} {v:Value} (h:Rel E s v):Rel E' s v:=h.ext0 x.toExt0
theorem RelL.ext {E E':Env} (x:Ext E E') {l:List SV} {vs:List Value} (h:RelL E l vs):RelL E' l vs:=h.ext0 x.toExt0
theorem RelL.length {E:Env}:∀ {l:List SV} {vs:List Value},RelL E l vs->l.length=vs.length
 | _,_,.nil=>rfl
 | _,_,.cons _ _ _ _ _ hl=>by simp[hl.length]
theorem RelL.get {E:Env}:∀ {l:List SV} {vs:List Value},RelL E l vs->∀i,i<l.length->Rel E (l.getD i .any) (vs.getD i undef)
 | _,_,.cons _ _ _ _ h _,0,_=>h
 | _,_,.cons _ _ l vs _ hl,i+1,hi=>by
  have:=hl.get i (by simpa using hi);simpa using this
theorem RelL.take {E:Env}:∀ {l:List SV} {vs:List Value},RelL E l vs->∀n,RelL E (l.take n) (vs.take n)
 | _,_,.nil,n=>by simp;exact .nil
 | _,_,.cons s v l vs h hl,0=>by simp;exact .nil
 | _,_,.cons s v l vs h hl,n+1=>by simp;exact .cons _ _ _ _ h (hl.take n)
theorem RelL.drop {E:Env}:∀ {l:List SV} {vs:List Value},RelL E l vs->∀n,RelL E (l.drop n) (vs.drop n)
 | _,_,.nil,n=>by simp;exact .nil
 | _,_,.cons s v l vs h hl,0=>by simp;exact .cons _ _ _ _ h hl
 | _,_,.cons s v l vs h hl,n+1=>by simp;exact hl.drop n
theorem RelL.append {E:Env}:∀ {l:List SV} {vs:List Value},RelL E l vs->∀ {l' vs'},RelL E l' vs'->RelL E (l++l') (vs++vs')
 | _,_,.nil,_,_,h'=>h'
 | _,_,.cons s v l vs h hl,_,_,h'=>.cons _ _ _ _ h (hl.append h')
theorem RelL.set {E:Env}:∀ {l:List SV} {vs:List Value},RelL E l vs->∀(i:Nat) {s v},Rel E s v->RelL E (l.set i s) (vs.set i v)
 | _,_,.nil,_,_,_,_=>.nil
 | _,_,.cons _ _ _ _ _ hl,0,_,_,h'=>.cons _ _ _ _ h' hl
 | _,_,.cons _ _ _ _ h hl,i+1,_,_,h'=>.cons _ _ _ _ h (hl.set i h')
def kC (l:List Value) (off:Nat):List Value->List Value
 | []=>l
 | v::r=>kC (l.set off v) (off+1) r
theorem RelL.setCells {E:Env} {l:List SV} {vs:List Value} (h:RelL E l vs):∀ {r:List SV} {rv:List Value},RelL E r rv->∀off,RelL E (Eng.setCells l off r) (kC vs off rv)
 | _,_,.nil,_=>h
 | _,_,.cons _ _ _ _ h' hl,off=>(h.set off h').setCells hl (off+1)
theorem qN (r:List Value):∀(l:List Value) (off:Nat),(kC l off r).length=l.length:=by
 induction r with
 | nil=>intro l off;rfl
 | cons v r ih=>intro l off;simp only[kC];rw[ih];simp
theorem wB (r:List Value):∀(l:List Value) (off i:Nat),off+r.length<=l.length->(kC l off r)[i]? =if off<=i/\i<off+r.length then r[i-off]? else l[i]? :=by
 induction r with
 | nil=>intro l off i h;simp[kC];omega
 | cons v r ih=>
  intro l off i h;simp only[kC,bS] at h ⊢;rw[ih _ _ _ (by simp;omega),eP];by_cases h1:i=off
  ·subst h1;rw[aC om,aD rfl,aD om,aD om];simp
  by_cases h2:off+1<=i/\i<off+1+r.length
  ·rw[aD h2,aD om];obtain ⟨k,rfl⟩:∃k,i=off+1+k:=⟨i-(off+1),om⟩;have e1:off+1+k-(off+1)=k:=om;have e2:off+1+k-off=k+1:=om;rw[e1,e2];rfl
  rw[aC h2];have:¬off=i:=fun e=>h1 e.symm;rw[aC this,aC om]
theorem Reads.enc {E:Env} {t:Ty} {x:t.T} {cs:List Value} (h:Reads E.w E.ok t x cs):RelL E (enc t x) cs:=by
 induction t generalizing cs with
 | int k=>obtain ⟨rfl,hk⟩:=h;exact .cons _ _ _ _ (.val _ hk) .nil
 | bool=>cases h;exact .cons _ _ _ _ (by cases x<;>exact .bl _ _) .nil
 | str=>obtain ⟨rfl,hk⟩:=h;exact .cons _ _ _ _ (.str _ hk) .nil
 | pair a b iha ihb=>obtain ⟨c1,c2,rfl,h1,h2⟩:=h;exact (iha h1).append (ihb h2)
 | slice t _=>
  obtain ⟨a,n,c,rfl,hr⟩:=h;exact .cons _ _ _ _ (.seq t x _ ⟨a,n,c,rfl,hr⟩) .nil
theorem Reads.giv {w:World} {ok:Nat->Prop} {t:Ty} {x:t.T} {cs:List Value} (h:Reads w ok t x cs) {C:Prop} (g:givT t x C):C:=by
 induction t generalizing cs C with
 | int k=>exact aBi g h.2
 | bool=>exact g
 | str=>exact g
 | pair a b iha ihb=>obtain ⟨c1,c2,rfl,h1,h2⟩:=h;exact ihb h2 (iha h1 g)
 | slice t _=>obtain ⟨a,n,c,rfl,hn,hc,hm,_⟩:=h;have hm':n<=140737488355328:=hm;exact g.go om
theorem RelL.one {E:Env} {s:SV} {vs:List Value} (h:RelL E [s] vs):∃v,vs= [v]/\Rel E s v:=by
 cases h with
 | cons _ v _ _ h1 h2=>cases h2;exact ⟨v,rfl,h1⟩
theorem Um {l:List SV} {n:Int} (h:Yc l=some n):∃k,l= [.val (.int k n)]:=by
 unfold Yc at h;split at h
 ·cases h;exact ⟨_,rfl⟩
 cases h
theorem Un {l:List SV} {n:Bx} (h:Yd l=some n):l= [.str n]:=by
 unfold Yd at h;split at h
 ·cases h;rfl
 cases h
theorem Uo {k k':IntKind} {n:Int} (h:Ye k [.val (.int k' n)]=true):k=k':=by simpa [Ye] using h
theorem Aj (w:World) (ok:Nat->Prop) (t:Ty):Reads w ok (.slice t) [] [.slice none 0 0]:=⟨none,0,0,rfl,rfl,aN _,aK _,fun h=>absurd h (gR _)⟩
theorem Ak {E:Env} {t:Ty} {l:List SV} {cs:List Value} {x:t.T} (h:RelL E l cs) (hd:dec t l=some x) (hk:tB t l=true):Reads E.w E.ok t x cs:=by
 induction t generalizing l cs with
 | int k=>
  obtain ⟨k',rfl⟩:=Um hd;obtain rfl:=Uo hk;obtain ⟨v,rfl,hv⟩:=h.one;cases hv with
  | val _ hw=>exact ⟨rfl,hw⟩
 | bool=>
  simp only[dec] at hd;unfold aBn at hd;split at hd
  ·cases hd;obtain ⟨v,rfl,hv⟩:=h.one;cases hv;rfl
  ·cases hd;obtain ⟨v,rfl,hv⟩:=h.one;cases hv;rfl
  cases hd
 | str=>
  obtain rfl:=Un hd;obtain ⟨v,rfl,hv⟩:=h.one;cases hv with
  | str _ hw=>exact ⟨rfl,hw⟩
 | slice t _=>
  simp only[dec] at hd;unfold Tv at hd;split at hd
  ·rename_i t' xs;split at hd
   ·rename_i e;subst e;cases hd;obtain ⟨v,rfl,hv⟩:=h.one;cases hv with
    | seq _ _ _ hr=>exact hr
   cases hd
  ·cases hd;obtain ⟨v,rfl,hv⟩:=h.one;cases hv;exact Aj _ _ _
  cases hd
 | pair a b iha ihb=>
  simp only[dec] at hd;simp only[tB,aE] at hk;split at hd
  ·rename_i x1 x2 e1 e2;cases hd;exact ⟨cs.take a.size,cs.drop a.size,si,iha (h.take _) e1 hk.1,ihb (h.drop _) e2 hk.2⟩
  cases hd
theorem Reads.one {w:World} {ok:Nat->Prop} {t:Ty} {x:t.T} {cs:List Value} (h:Reads w ok t x cs):∀u∈cs,u.oneCell'=true:=by
 induction t generalizing cs with
 | int k=>obtain ⟨rfl,_⟩:=h;simp[Value.oneCell']
 | bool=>cases h;simp[Value.oneCell']
 | str=>obtain ⟨rfl,_⟩:=h;simp[Value.oneCell']
 | slice t _=>obtain ⟨a,n,c,rfl,_⟩:=h;simp[Value.oneCell']
 | pair a b iha ihb=>
  obtain ⟨c1,c2,rfl,h1,h2⟩:=h;intro u hu;rcases cE.1 hu with h | h
  ·exact iha h1 u h
  exact ihb h2 u h
def _root_.Go.World.ownsR (w:World) (base:Nat) (e:TypeId) (size:Nat) (v:Value) (n:Nat) (xs:List Value):Prop:=
 xs.length=n*size/\((v= .slice none 0 0/\n=0)\/∃(g cap:Nat) (cur:Array Value),v= .slice (some ⟨g,0,none⟩) n cap/\base<=g/\w.heap[g]? =some (.cells cur e (0,0))/\n<=cap/\cap<=maxLen/\cap*size<=cur.size/\cur.toList.take (n*size)=xs)
theorem dJ {w:World} {base:Nat} {e:TypeId} {size n:Nat} {L:Loc} {vs:List Value} (h:w.ownsR base e size L.head n vs):
  (L.blk=none/\L.cap=0/\L.len=0/\n=0)\/∃g cur,L.blk=some (g,0)/\L.len=n/\w.heap[g]? =some (.cells cur e (0,0))/\n<=L.cap/\L.cap<=maxLen/\L.cap*size<=cur.size/\cur.toList.take (n*size)=vs:=by
 obtain ⟨_,⟨h1,h2⟩ | ⟨g,cap,cur,h1,_,h3,h4,h5,h6,h7⟩⟩:=h
 ·left
  simp only[Core.head,Value.slice.injEq,Option.map_eq_none_iff] at h1;exact ⟨h1.1,h1.2.2,h1.2.1,h2⟩
 right
 simp only[Core.head,Value.slice.injEq] at h1;obtain ⟨e1,e2,e3⟩:=h1;cases hb:L.blk with
 | none=>rw[hb] at e1;cases e1
 | some p=>
  rw[hb] at e1;simp at e1;obtain ⟨e4,e5⟩:=e1;refine ⟨g,cur,?_,e2,h3,om,om,by rw[e3];exact h6,h7⟩;cases p;simp_all
structure Ctx where
 w0:World
 ok0:Nat->Prop
 mine:Nat->Prop
 apart:∀b,ok0 b->¬mine b
 below:∀b,ok0 b->b<w0.heap.size
 itr:Itr
 low:itr.n0<=w0.heap.size
def Owns (L:Loc) (o:HO) (b:Nat):Prop:=
 match o with
 | .cells _ _=>L.blk.map (·.1)=some b
 | .vec _ _ _ _=>L.blk.map (·.1)=some b
 | .map _ _ _=>L.blk.map (·.1)=some b
 | .qm _ _=>L.blk.map (·.1)=some b
 | .mit _ _ _ _=>L.blk.map (·.1)=some b
 | .vv _ _ _ _ _ _ _=>L.blk.map (·.1)=some b\/L.al b
 | .gone=>L.al b
 | .yst _ _ _=>L.al b
 | .lnt _ _ _=>∃o,L.sub.snap b=some o
 | _=>False
def Owned (H:List HO) (loc:Nat->Loc) (b:Nat):Prop:=∃nm o,H[nm]? =some o/\Owns (loc nm) o b
def okN (G:Ctx) (H:List HO) (loc:Nat->Loc) (w:World) (b:Nat):Prop:=(G.ok0 b\/G.mine b\/G.w0.heap.size<=b)/\b<w.heap.size/\¬Owned H loc b
def ghoN (H:List HO) (loc:Nat->Loc) (nm b:Nat):Prop:=H[nm]? =some .gone/\(loc nm).al b
def aliN (H:List HO) (loc:Nat->Loc) (b:Nat):Prop:=∃nm st n it,H[nm]? =some (.yst st n it)/\(loc nm).al b
def envOf (G:Ctx) (H:List HO) (loc:Nat->Loc) (ver:Nat->Nat) (w:World):Env:=⟨w,okN G H loc w,hasB H,loc,ver,ghoN H loc,aliN H loc,G.itr⟩
def EntsR (w:World) (ok:Nat->Prop) (k:IntKind) (t:Ty):List (Nat × Int × t.T)->List MapEntry->Prop
 | [],[]=>True
 | x::r,e::r'=>(e.born=x.1/\e.key= .int k x.2.1/\inK k x.2.1/\Reads w ok t x.2.2 [e.val])/\EntsR w ok k t r r'
 | _,_=>False
def RowAt (E:Env) (al:Nat->Prop) (t:Ty) (ei:TypeId) (h:Value) (xs:List t.T):Prop:=
 ∃vs,E.w.ownsR 0 ei t.size h xs.length vs/\(∀b,h.ownBlock=some b->al b)/\∀i,i<xs.length->Reads E.w E.ok t (List.getD (α:=t.T) xs i t.dflt) ((vs.drop (i*t.size)).take t.size)
structure Rows (E:Env) (L:Loc) (t:Ty) (ei:TypeId) (xss:List (List t.T)) (pend:Option (Nat × List t.T)):Prop where
 flat:t.flat=true
 row:∀i,i<xss.length->(∀j ys,pend=some (j,ys)->i≠j)->RowAt E L.al t ei (L.sub.rows i) (xss.getD i [])
 apart:∀i j,i<xss.length->j<xss.length->(∀k ys,pend=some (k,ys)->i≠k/\j≠k)->i≠j->∀b,(L.sub.rows i).ownBlock=some b->(L.sub.rows j).ownBlock≠some b
 grown:∀j ys,pend=some (j,ys)->j<xss.length/\RowAt E L.al t ei L.sub.pnd ys/\∀i,i<xss.length->i≠j->∀b,L.sub.pnd.ownBlock=some b->(L.sub.rows i).ownBlock≠some b
 short:∀i,i<xss.length->(xss.getD i []).length<=maxL
def OSat (E:Env) (L:Loc) (v:Nat):HO->Prop
 | .dead=>True
 | .res=>True
 | .cells l e=>v=0/\∃b vs,L.blk=some (b,0)/\E.w.heap[b]? =some (.cells ⟨vs⟩ e (0,0))/\RelL E l vs
 | .vec k t xs e=>v=k/\0<k/\L.len=List.length (α:=t.T) xs/\L.len<=maxL/\
   ∃vs,E.w.ownsR 0 e t.size L.head L.len vs/\∀i,i<L.len->Reads E.w E.ok t (List.getD (α:=t.T) xs i t.dflt) ((vs.drop (i*t.size)).take t.size)
 | .fro k t xs=>v=k/\0<k/\Reads E.w E.ok (.slice t) xs [L.head]
 | .map k t m=>v=0/\m.Wf/\m.es.length<=maxL/\∃b es,L.blk=some (b,0)/\E.w.heap[b]? =some (.map ⟨es⟩ m.clock)/\EntsR E.w E.ok k t m.es es
 | .qm ks l=>v=0/\ks.length<=maxL/\bare.bareL l=true/\∃b es c,L.blk=some (b,0)/\E.w.heap[b]? =some (.map ⟨es⟩ c)/\QmR ks es c/\RelL E l (es.map (·.val))
 | .frm ks l=>v=0/\bare.bareL l=true/\∃b es c,L.blk=some (b,0)/\E.ok b/\E.w.heap[b]? =some (.map ⟨es⟩ c)/\KeysR ks es/\RelL E l (es.map (·.val))
 | .mit m since seen c0=>v=0/\E.has m=true/\∃r bm,L.blk=some (r,0)/\E.w.heap[r]? =some (.mapIter (some bm) since ⟨seen⟩ c0)/\(E.ver m=0->(E.loc m).blk=some (bm,0))
 | .vv k s t xss pend eo ei=>v=k/\0<k/\L.sub.v=s/\L.len=xss.length/\L.len<=maxL/\
   (∃vs,E.w.ownsR 0 eo 1 L.head L.len vs/\∀i,i<L.len->vs[i]? =some (L.sub.rows i))/\(∀b,L.al b->b<E.w.heap.size/\L.blk.map (·.1)≠some b/\∃c e,E.w.heap[b]? =some (.cells c e (0,0)))/\Rows E L t ei xss pend
 | .frc l=>v=0/\∃b vs e,L.blk=some (b,0)/\E.ok b/\E.w.heap[b]? =some (.cells ⟨vs⟩ e (0,0))/\RelL E l vs
 | .gone=>0<v/\∀b,L.al b->b<E.w.heap.size
 | .lnt k t xs=>v=k/\0<k/\L.sub.v=0/\(∀b o,L.sub.snap b=some o->isBook o=false/\E.w.heap[b]? =some o)/\Reads E.w (fun b=>∃o,L.sub.snap b=some o) (.slice t) xs [L.sub.pnd]
 | .yst st n it=>0<v/\(∀b,L.al b->b<E.w.heap.size)/\E.itr.n0<=E.w.heap.size/\n=E.itr.n/\it=E.itr.items/\
   (∀b,b<E.itr.n0->¬L.al b->E.itr.ok b/\E.ok b)/\
   E.itr.J st (fun b=>E.itr.n0<=b/\b<E.w.heap.size/\¬L.al b) E.w
structure Inv (G:Ctx) (H:List HO) (loc:Nat->Loc) (ver:Nat->Nat) (w:World):Prop where
 size:G.w0.heap.size<=w.heap.size
 os:w.os=G.w0.os
 tape:w.tape=G.w0.tape
 output:w.output=G.w0.output
 frame:∀b,b<G.w0.heap.size->¬G.mine b->w.heap[b]? =G.w0.heap[b]?
 objs:∀nm o,H[nm]? =some o->OSat (envOf G H loc ver w) (loc nm) (ver nm) o
 own:∀b,Owned H loc b->G.mine b\/G.w0.heap.size<=b
 sep:∀nm nm' o o' b,H[nm]? =some o->H[nm']? =some o'->Owns (loc nm) o b->Owns (loc nm') o' b->nm=nm'
open Go.RowKit
theorem OSat.block {E:Env} {L:Loc} {v:Nat} {o:HO} {b:Nat} (h:OSat E L v o) (hb:Owns L o b):b<E.w.heap.size:=by
 cases o with
 | dead=>cases hb
 | fro=>cases hb
 | res=>cases hb
 | frc=>cases hb
 | frm=>cases hb
 | qm ks l=>
  obtain ⟨_,_,_,b',es,c,h1,h2,_⟩:=h;simp[Owns,h1] at hb;subst hb;exact (aF.1 h2).1
 | gone=>exact h.2 b hb
 | lnt k t xs=>
  obtain ⟨o,ho⟩:=hb;exact (aF.1 (h.2.2.2.1 b o ho).2).1
 | yst st n it=>exact h.2.1 b hb
 | cells l e=>
  obtain ⟨_,b',vs,h1,h2,_⟩:=h;simp[Owns,h1] at hb;subst hb;exact (aF.1 h2).1
 | map k t m=>
  obtain ⟨_,_,_,b',es,h1,h2,_⟩:=h;simp[Owns,h1] at hb;subst hb;exact (aF.1 h2).1
 | mit m s l c=>
  obtain ⟨_,_,b',bm,h1,h2,_⟩:=h;simp[Owns,h1] at hb;subst hb;exact (aF.1 h2).1
 | vv k s t xss pend eo ei=>
  obtain ⟨_,_,_,_,_,⟨vs,h2,_⟩,h3,_⟩:=h;rcases hb with hb | hb
  ·rcases dJ h2 with ⟨h3,_⟩ | ⟨g,cur,h3,_,h4,_⟩
   ·simp[h3] at hb
   simp[h3] at hb;subst hb;exact (aF.1 h4).1
  exact (h3 b hb).1
 | vec k t xs e=>
  obtain ⟨_,_,_,_,vs,h2,_⟩:=h;rcases dJ h2 with ⟨h3,_⟩ | ⟨g,cur,h3,_,h4,_⟩
  ·simp[Owns,h3] at hb
  simp[Owns,h3] at hb;subst hb;exact (aF.1 h4).1
theorem OSat.isBook {E:Env} {L:Loc} {v:Nat} {o:HO} {b:Nat} (h:OSat E L v o) (hb:Owns L o b) (h1:o≠ .gone) (h2:∀st n it,o≠ .yst st n it) {x:Obj} (hx:E.w.heap[b]? =some x):isBook x=false:=by
 cases o with
 | dead=>cases hb
 | fro=>cases hb
 | res=>cases hb
 | frc=>cases hb
 | gone=>exact (h1 rfl).elim
 | lnt k t xs=>
  obtain ⟨o,ho⟩:=hb;have h3:=h.2.2.2.1 b o ho;rw[hx] at h3;obtain ⟨h4,h5⟩:=h3;cases h5;exact h4
 | yst st n it=>exact (h2 _ _ _ rfl).elim
 | cells l e=>
  obtain ⟨_,b',vs,h1,h2,_⟩:=h;simp[Owns,h1] at hb;subst hb;rw[h2] at hx;cases hx;rfl
 | frm=>cases hb
 | qm ks l=>
  obtain ⟨_,_,_,b',es,c,h1,h2,_⟩:=h;simp[Owns,h1] at hb;subst hb;rw[h2] at hx;cases hx;rfl
 | map k t m=>
  obtain ⟨_,_,_,b',es,h1,h2,_⟩:=h;simp[Owns,h1] at hb;subst hb;rw[h2] at hx;cases hx;rfl
 | mit m s l c=>
  obtain ⟨_,_,b',bm,h1,h2,_⟩:=h;simp[Owns,h1] at hb;subst hb;rw[h2] at hx;cases hx;rfl
 | vv k s t xss pend eo ei=>
  obtain ⟨_,_,_,_,_,⟨vs,h2,_⟩,h3,_⟩:=h;rcases hb with hb | hb
  ·rcases dJ h2 with ⟨h3,_⟩ | ⟨g,cur,h3,_,h4,_⟩
   ·simp[h3] at hb
   simp[h3] at hb;subst hb;rw[h4] at hx;cases hx;rfl
  obtain ⟨_,_,c,e,h4⟩:=h3 b hb;rw[h4] at hx;cases hx;rfl
 | vec k t xs e=>
  obtain ⟨_,_,_,_,vs,h2,_⟩:=h;rcases dJ h2 with ⟨h3,_⟩ | ⟨g,cur,h3,_,h4,_⟩
  ·simp[Owns,h3] at hb
  simp[Owns,h3] at hb;subst hb;rw[h4] at hx;cases hx;rfl
theorem EntsR.mono {w w':World} {ok ok':Nat->Prop} (hc:∀a v,ok a.block->w.cell? a=some v->w'.cell? a=some v) (hk:∀b,ok b->ok' b) {k:IntKind} {t:Ty}:∀ {xs:List (Nat × Int × t.T)} {es:List MapEntry},EntsR w ok k t xs es->EntsR w' ok' k t xs es
 | [],[],_=>trivial
 | _:: _,_:: _,h=>⟨⟨h.1.1,h.1.2.1,h.1.2.2.1,h.1.2.2.2.mono hc hk⟩,EntsR.mono hc hk h.2⟩
theorem xD {w w':World} {base:Nat} {e:TypeId} {size n:Nat} {v:Value} {vs:List Value} (h:w.ownsR base e size v n vs) (hs:∀b,v.ownBlock=some b->w'.heap[b]? =w.heap[b]?):w'.ownsR base e size v n vs:=by
 refine ⟨h.1,?_⟩;rcases h.2 with h5 | ⟨g,cap,cur,h5,h6,h7,h8⟩
 ·exact .inl h5
 refine .inr ⟨g,cap,cur,h5,h6,?_,h8⟩;rw[hs g (by rw[h5];rfl)];exact h7
theorem RowAt.ext {E E':Env} (x:Ext0 E E') {al:Nat->Prop} {t:Ty} {ei:TypeId} {h:Value} {xs:List t.T} (hr:RowAt E al t ei h xs) (hs:∀b,al b->E'.w.heap[b]? =E.w.heap[b]?):RowAt E' al t ei h xs:=by
 obtain ⟨vs,h1,h2,h3⟩:=hr;exact ⟨vs,xD h1 fun b hb=>hs b (h2 b hb),h2,fun i hi=>(h3 i hi).mono x.cell x.ok⟩
theorem Rows.ext {E E':Env} (x:Ext0 E E') {L:Loc} {t:Ty} {ei:TypeId} {xss:List (List t.T)} {pend:Option (Nat × List t.T)} (h:Rows E L t ei xss pend) (hs:∀b,L.al b->E'.w.heap[b]? =E.w.heap[b]?):Rows E' L t ei xss pend:=
 ⟨h.flat,fun i hi hp=>(h.row i hi hp).ext x hs,h.apart,fun j ys hp=>by obtain ⟨h1,h2,h3⟩:=h.grown j ys hp;exact ⟨h1,h2.ext x hs,h3⟩,h.short⟩
theorem OSat.ext {E E':Env} (x:Ext0 E E') {L:Loc} {v:Nat} {o:HO} (h:OSat E L v o) (hs:∀b,Owns L o b->E'.w.heap[b]? =E.w.heap[b]?):OSat E' L v o:=by
 cases o with
 | dead=>trivial
 | res=>trivial
 | fro k t xs=>obtain ⟨h1,h2,h3⟩:=h;exact ⟨h1,h2,h3.mono x.cell x.ok⟩
 | frc l=>obtain ⟨h1,b,vs,e,h2,h3,h4,h5⟩:=h;exact ⟨h1,b,vs,e,h2,x.ok b h3,(x.blk _ h3).trans h4,h5.ext0 x⟩
 | gone=>exact ⟨h.1,fun b hb=>aZ (h.2 b hb) x.size⟩
 | lnt k t xs=>
  obtain ⟨h1,h2,h3,h4,h5⟩:=h;refine ⟨h1,h2,h3,fun b o hb=>⟨(h4 b o hb).1,(hs b ⟨o,hb⟩).trans (h4 b o hb).2⟩,h5.mono (fun a v ha hv=>?_) fun _ h=>h⟩;exact (World.cell?_of_block (hs a.block ha)).trans hv
 | qm ks l=>
  obtain ⟨h0,hm,hb,b,es,c,h1,h2,h3,h4⟩:=h;exact ⟨h0,hm,hb,b,es,c,h1,by rw[hs b (by simp[Owns,h1])];exact h2,h3,h4.ext0 x⟩
 | frm ks l=>
  obtain ⟨h0,hb,b,es,c,h1,h2,h3,h4,h5⟩:=h;exact ⟨h0,hb,b,es,c,h1,x.ok b h2,(x.blk _ h2).trans h3,h4,h5.ext0 x⟩
 | map k t m=>
  obtain ⟨h0,hw,hm,b,es,h1,h2,h3⟩:=h;exact ⟨h0,hw,hm,b,es,h1,by rw[hs b (by simp[Owns,h1])];exact h2,h3.mono x.cell x.ok⟩
 | mit m s l c=>
  obtain ⟨h0,hm,b,bm,h1,h2,h3⟩:=h;refine ⟨h0,x.num m hm,b,bm,h1,by rw[hs b (by simp[Owns,h1])];exact h2,fun e=>?_⟩;rcases x.ver m hm with ⟨e1,e2⟩ | ⟨e1,e2⟩
  ·rw[e2];exact h3 (by rw[<- e1];exact e)
  omega
 | vv k s t xss pend eo ei=>
  obtain ⟨h1,h2,h3,h4,h5,⟨vs,h6,h7⟩,h8,h9⟩:=h;refine ⟨h1,h2,h3,h4,h5,⟨vs,xD h6 fun b hb=>hs b (.inl ?_),h7⟩,fun b hb=>?_,h9.ext x fun b hb=>hs b (.inr hb)⟩
  ·simp only[Core.head] at hb;cases hL:L.blk with
   | none=>rw[hL] at hb;cases hb
   | some p=>rw[hL] at hb;simpa [Value.ownBlock] using hb
  obtain ⟨q1,q2,c,e,q3⟩:=h8 b hb;exact ⟨aZ q1 x.size,q2,c,e,by rw[hs b (.inr hb)];exact q3⟩
 | yst st n it=>
  obtain ⟨h1,h2,h3,h4,h5,h6,h7⟩:=h;refine ⟨h1,fun b hb=>aZ (h2 b hb) x.size,by rw[x.itr];exact bL h3 x.size,by rw[x.itr];exact h4,by rw[x.itr];exact h5,fun b hb hl=>?_,?_⟩
  ·rw[x.itr] at hb ⊢;obtain ⟨h8,h9⟩:=h6 b hb hl;exact ⟨h8,x.ok b h9⟩
  rw[x.itr];have:=E.itr.abides st _ E.w E'.w h7 x.os x.tape x.output x.size fun b hb hm=>by
   by_cases hl:L.al b
   ·exact hs b hl
   by_cases hn:b<E.itr.n0
   ·exact x.blk b (h6 b hn hl).2
   exact (hm ⟨om,hb,hl⟩).elim
  refine cast (aP (fun M=>E.itr.J st M E'.w) (funext fun b=>propext ⟨?_,?_⟩)) this
  ·rintro (⟨h8,h9,h10⟩ | ⟨h8,h9⟩)
   ·exact ⟨h8,aZ h9 x.size,h10⟩
   exact ⟨bL h3 h8,h9,fun hl=>by have:=h2 b hl;omega⟩
  rintro ⟨h8,h9,h10⟩;by_cases h11:b<E.w.heap.size
  ·exact .inl ⟨h8,h11,h10⟩
  exact .inr ⟨om,h9⟩
 | cells l e=>
  obtain ⟨h0,b,vs,h1,h2,h3⟩:=h;exact ⟨h0,b,vs,h1,by rw[hs b (by simp[Owns,h1])];exact h2,h3.ext0 x⟩
 | vec k t xs e=>
  obtain ⟨h0,h00,h1,h2,vs,h3,h4⟩:=h;refine ⟨h0,h00,h1,h2,vs,?_,fun i hi=>(h4 i hi).mono x.cell x.ok⟩;refine ⟨h3.1,?_⟩;rcases h3.2 with h5 | ⟨g,cap,cur,h5,h6,h7,h8⟩
  ·exact .inl h5
  refine .inr ⟨g,cap,cur,h5,h6,?_,h8⟩;rw[hs g ?_];exact h7;simp only[Core.head,Value.slice.injEq] at h5;cases hL:L.blk with
  | none=>rw[hL] at h5;simp at h5
  | some p=>rw[hL] at h5;simp at h5;simp[Owns,hL,h5.1.1]
theorem kM {H:List HO} {nm:Nat} (h:hasB H nm=true):nm<H.length:=by
 simp only[hasB,aE] at h;simpa using h.1
theorem sH (H:List HO):hasB H H.length=false:=by simp[hasB]
theorem eM {H:List HO} {nm:Nat} {o:HO} (h:H[nm]? =some o) (ho:Bi o=false):hasB H nm=true:=by
 have hlt:=(aL.1 h).1;unfold hasB hget;rw[aB,h];simp[hlt,ho]
theorem lD {H:List HO} {o:HO} (ho:Bi o=false):hasB (H++ [o]) H.length=true:=eM si ho
theorem Ch {H H':List HO} {nm:Nat} (h:H'[nm]? =H[nm]?) (hb:hasB H nm=true):hasB H' nm=true:=by
 have hlt:=kM hb;have h2:nm<H'.length:=by
  apply aH;intro hn;rw[cG om] at h;have:=List.getElem?_eq_none_iff.1 h.symm;omega
 simp only[hasB,hget,aB,h,aE] at hb ⊢;exact ⟨by simpa using h2,hb.2⟩
theorem Inv.turn0 {G:Ctx} {H H':List HO} {loc loc':Nat->Loc} {ver ver':Nat->Nat} {w w':World} (hI:Inv G H loc ver w) (nm:Nat)
  (hlen:H.length<=H'.length)
  (hoth:∀k,k≠nm->H'[k]? =H[k]? /\loc' k=loc k/\ver' k=ver k)
  (hhas:hasB H nm=true->hasB H' nm=true)
  (hver:hasB H nm=true->(ver' nm=ver nm/\(loc' nm).toCore=(loc nm).toCore/\((loc' nm).sub=(loc nm).sub\/(loc nm).sub.v<(loc' nm).sub.v))\/(0<ver nm/\ver nm<ver' nm))
  (hsz:w.heap.size<=w'.heap.size) (hos:w'.os=w.os) (htp:w'.tape=w.tape) (hout:w'.output=w.output)
  (hblk:∀b,b<w.heap.size->(∀o,H[nm]? =some o->¬Owns (loc nm) o b)->w'.heap[b]? =w.heap[b]?)
  (hfr:∀o' b,H'[nm]? =some o'->Owns (loc' nm) o' b->(∃o,H[nm]? =some o/\Owns (loc nm) o b)\/w.heap.size<=b)
  (hali:∀st n it b,H'[nm]? =some (.yst st n it)->(loc' nm).al b->(∃st n it,H[nm]? =some (.yst st n it)/\(loc nm).al b)\/w.heap.size<=b)
  (hnew:Ext0 (envOf G H loc ver w) (envOf G H' loc' ver' w')->∀o',H'[nm]? =some o'->OSat (envOf G H' loc' ver' w') (loc' nm) (ver' nm) o'):
  Inv G H' loc' ver' w'/\Ext0 (envOf G H loc ver w) (envOf G H' loc' ver' w'):=by
 have hown:∀b,Owned H' loc' b->Owned H loc b\/w.heap.size<=b:=by
  rintro b ⟨k,o,hk,hb⟩;by_cases e:k=nm
  ·subst e;rcases hfr o b hk hb with ⟨o',h1,h2⟩ | h
   ·exact .inl ⟨_,o',h1,h2⟩
   exact .inr h
  obtain ⟨h1,h2,_⟩:=hoth k e;exact .inl ⟨k,o,by rw[<- h1];exact hk,by rw[<- h2];exact hb⟩
 have hokb:∀b,okN G H loc w b->w'.heap[b]? =w.heap[b]? :=fun b hb=>hblk b hb.2.1 fun o ho hbk=>hb.2.2 ⟨nm,o,ho,hbk⟩;have hx:Ext0 (envOf G H loc ver w) (envOf G H' loc' ver' w'):=by
  refine ⟨hokb,fun b hb=>⟨hb.1,aZ hb.2.1 hsz,fun ho=>?_⟩,fun k hk=>?_,fun k hk=>?_,hos,htp,hout,hsz,fun b=>?_,rfl,fun k hk he=>?_⟩
  ·rcases hown b ho with h | h
   ·exact hb.2.2 h
   have:=hb.2.1;omega
  ·by_cases e:k=nm
   ·subst e;exact hhas hk
   exact Ch (hoth k e).1 hk
  ·by_cases e:k=nm
   ·subst e;exact (hver hk).imp (fun h=>⟨h.1,h.2.1⟩) id
   obtain ⟨_,h2,h3⟩:=hoth k e;exact .inl ⟨h3,aP _ h2⟩
  ·rintro ⟨k,st,n,it,hk,hb⟩;by_cases e:k=nm
   ·subst e;rcases hali st n it b hk hb with ⟨st',n',it',h1,h2⟩ | h
    ·exact .inl ⟨k,st',n',it',h1,h2⟩
    exact .inr h
   obtain ⟨h1,h2,_⟩:=hoth k e;exact .inl ⟨k,st,n,it,by rw[<- h1];exact hk,by rw[<- h2];exact hb⟩
  have he:ver' k=ver k:=he;by_cases e:k=nm
  ·subst e;rcases hver hk with h | h
   ·exact h.2.2
   omega
  obtain ⟨_,h2,_⟩:=hoth k e;exact .inl (aP _ h2)
 have hnew':=hnew hx;refine ⟨⟨bL hI.size hsz,hos.trans hI.os,htp.trans hI.tape,hout.trans hI.output,fun b hb hm=>?_,fun k o hk=>?_,fun b hb=>?_,fun k k' o o' b hk hk' hb hb'=>?_⟩,hx⟩
 ·refine (hblk b (aZ hb hI.size) fun o ho hbk=>?_).trans (hI.frame b hb hm);rcases hI.own b ⟨nm,o,ho,hbk⟩ with h | h
  ·exact hm h
  omega
 ·by_cases e:k=nm
  ·subst e;exact hnew' o hk
  obtain ⟨h1,h2,h3⟩:=hoth k e;rw[h1] at hk;rw[h2,h3];have hO:=hI.objs k o hk;refine hO.ext hx fun b hb=>hblk b (hO.block hb) fun o₁ ho₁ hb₁=>e (hI.sep _ _ _ _ b hk ho₁ hb hb₁)
 ·rcases hown b hb with h | h
  ·exact hI.own b h
  exact .inr (bL hI.size h)
 have key:∀k o,k≠nm->H'[k]? =some o->Owns (loc' k) o b->∀o',H'[nm]? =some o'->Owns (loc' nm) o' b->False:=by
  intro k o e hk hb o' hk' hb';obtain ⟨h1,h2,_⟩:=hoth k e;rw[h1] at hk;rw[h2] at hb;rcases hfr o' b hk' hb' with ⟨o₁,h3,h4⟩ | h
  ·exact e (hI.sep _ _ _ _ b hk h3 hb h4)
  have:=(hI.objs k o hk).block hb;simp[envOf] at this;omega
 by_cases e:k=nm
 ·by_cases e':k'=nm
  ·rw[e,e']
  subst e;exact (key k' o' e' hk' hb' o hk hb).elim
 by_cases e':k'=nm
 ·subst e';exact (key k o e hk hb o' hk' hb').elim
 obtain ⟨h1,h2,_⟩:=hoth k e;obtain ⟨h3,h4,_⟩:=hoth k' e';rw[h1] at hk;rw[h2] at hb;rw[h3] at hk';rw[h4] at hb';exact hI.sep _ _ _ _ b hk hk' hb hb'
theorem Inv.turn {G:Ctx} {H H':List HO} {loc loc':Nat->Loc} {ver ver':Nat->Nat} {w w':World} (hI:Inv G H loc ver w) (nm:Nat)
  (hlen:H.length<=H'.length)
  (hoth:∀k,k≠nm->H'[k]? =H[k]? /\loc' k=loc k/\ver' k=ver k)
  (hhas:hasB H nm=true->hasB H' nm=true)
  (hver:hasB H nm=true->(ver' nm=ver nm/\(loc' nm).toCore=(loc nm).toCore/\((loc' nm).sub=(loc nm).sub\/(loc nm).sub.v<(loc' nm).sub.v))\/(0<ver nm/\ver nm<ver' nm))
  (hsz:w.heap.size<=w'.heap.size) (hos:w'.os=w.os) (htp:w'.tape=w.tape) (hout:w'.output=w.output)
  (hng:H[nm]? ≠some .gone) (hng':hasB H nm=true->H'[nm]? ≠some .gone)
  (hny:∀st n it b,H'[nm]? =some (.yst st n it)->(loc' nm).al b->(∃st n it,H[nm]? =some (.yst st n it)/\(loc nm).al b)\/w.heap.size<=b)
  (hblk:∀b,b<w.heap.size->(∀o,H[nm]? =some o->¬Owns (loc nm) o b)->w'.heap[b]? =w.heap[b]?)
  (hfr:∀o' b,H'[nm]? =some o'->Owns (loc' nm) o' b->(∃o,H[nm]? =some o/\Owns (loc nm) o b)\/w.heap.size<=b)
  (hnew:Ext (envOf G H loc ver w) (envOf G H' loc' ver' w')->∀o',H'[nm]? =some o'->OSat (envOf G H' loc' ver' w') (loc' nm) (ver' nm) o'):
  Inv G H' loc' ver' w'/\Ext (envOf G H loc ver w) (envOf G H' loc' ver' w'):=by
 have hgho:∀k b,ghoN H loc k b->ghoN H' loc' k b/\w'.heap[b]? =w.heap[b]? :=by
  rintro k b ⟨hk,hb⟩;have e:k≠nm:=fun e=>hng (by rw[<- e];exact hk);obtain ⟨h1,h2,_⟩:=hoth k e;refine ⟨⟨by rw[h1];exact hk,by rw[h2];exact hb⟩,hblk b ((hI.objs k _ hk).2 b hb) fun o ho hbo=>?_⟩;exact e (hI.sep _ _ _ _ b hk ho hb hbo)
 have hgho':∀k b,hasB H k=true->ghoN H' loc' k b->ghoN H loc k b:=by
  rintro k b hlt ⟨hk,hb⟩;by_cases e:k=nm
  ·subst e;exact (hng' hlt hk).elim
  obtain ⟨h1,h2,_⟩:=hoth k e;exact ⟨by rw[<- h1];exact hk,by rw[<- h2];exact hb⟩
 have hkeep:∀(k:Nat) (o:Obj),¬aliN H loc k->w.heap[k]? =some o->isBook o=true->w'.heap[k]? =some o:=by
  intro k o hna hk ho;refine (hblk k (aF.1 hk).1 fun o' ho' hb'=>?_).trans hk;have hy:∀st n it,o'≠ .yst st n it:=by rintro st n it rfl;exact hna ⟨nm,st,n,it,ho',hb'⟩
  have:=(hI.objs nm o' ho').isBook hb' (fun e=>hng (by rw[ho',e])) hy (x:=o) hk;rw[ho] at this;cases this
 obtain ⟨h1,h2⟩:=hI.turn0 nm hlen hoth hhas hver hsz hos htp hout hblk hfr hny (fun x=>hnew ⟨x,hkeep,hgho,hgho'⟩);exact ⟨h1,⟨h2,hkeep,hgho,hgho'⟩⟩
def upd {α:Type} (f:Nat->α) (n:Nat) (x:α):Nat->α:=fun k=>if k=n then x else f k
theorem aW {α:Type} (f:Nat->α) (n:Nat) (x:α):upd f n x n=x:=aD rfl
theorem cW {α:Type} (f:Nat->α) (n:Nat) (x:α) {k:Nat} (h:k≠n):upd f n x k=f k:=aC h
theorem gT {H:List HO} {o:HO}:(H++ [o])[H.length]? =some o:=by simp
theorem iO {H:List HO} {o:HO} {k:Nat} (h:k≠H.length):(H++ [o])[k]? =H[k]? :=by
 rcases Nat.lt_or_ge k H.length with h1 | h1
 ·rw[bU h1]
 rw[cS h1,cG (l:=H) om];have:k-H.length≠0:=om;cases hk:k-H.length with
 | zero=>omega
 | succ m=>rfl
theorem aQ {H:List HO} {nm:Nat} {o:HO} (h:nm<H.length):(H.set nm o)[nm]? =some o:=by simp[h]
theorem bZ {H:List HO} {nm k:Nat} {o:HO} (h:k≠nm):(H.set nm o)[k]? =H[k]? :=by
 rw[eP];simp[Ne.symm h]
theorem Inv.fresh {G:Ctx} {H:List HO} {loc:Nat->Loc} {ver:Nat->Nat} {w w':World} (hI:Inv G H loc ver w) (o:HO) (L:Loc) (v:Nat)
  (hsz:w.heap.size<=w'.heap.size) (hos:w'.os=w.os) (htp:w'.tape=w.tape) (hout:w'.output=w.output)
  (hblk:∀b,b<w.heap.size->w'.heap[b]? =w.heap[b]?)
  (hfr:∀b,Owns L o b->w.heap.size<=b)
  (hnew:Ext (envOf G H loc ver w) (envOf G (H++ [o]) (upd loc H.length L) (upd ver H.length v) w')->OSat (envOf G (H++ [o]) (upd loc H.length L) (upd ver H.length v) w') L v o)
  (hny:∀st n it,o≠ .yst st n it:=by intro _ _ _ h;cases h):
  Inv G (H++ [o]) (upd loc H.length L) (upd ver H.length v) w'/\Ext (envOf G H loc ver w) (envOf G (H++ [o]) (upd loc H.length L) (upd ver H.length v) w'):=by
 refine hI.turn H.length si (fun k hk=>⟨iO hk,cW _ _ _ hk,cW _ _ _ hk⟩) (fun h=>by rw[sH] at h;cases h) (fun h=>by rw[sH] at h;cases h) hsz hos htp hout si (fun h=>by rw[sH] at h;cases h) (fun st n it b h=>by rw[gT] at h;cases h;exact (hny _ _ _ rfl).elim) (fun b hb _=>hblk b hb) ?_ ?_
 ·intro o' b ho' hb;rw[gT] at ho';cases ho';rw[aW] at hb;exact .inr (hfr b hb)
 intro hx o' ho';rw[gT] at ho';cases ho';rw[aW,aW];exact hnew hx
theorem Inv.inPlace {G:Ctx} {H:List HO} {loc:Nat->Loc} {ver:Nat->Nat} {w w':World} (hI:Inv G H loc ver w) {nm:Nat} {o o':HO} {b:Nat} (hn:H[nm]? =some o) (hb:Owns (loc nm) o b) (hob:∀b',Owns (loc nm) o' b'->Owns (loc nm) o b')
  (hsz:w'.heap.size=w.heap.size) (hos:w'.os=w.os) (htp:w'.tape=w.tape) (hout:w'.output=w.output)
  (hblk:∀b',b'≠b->w'.heap[b']? =w.heap[b']?)
  (hnew:Ext (envOf G H loc ver w) (envOf G (H.set nm o') loc ver w')->OSat (envOf G (H.set nm o') loc ver w') (loc nm) (ver nm) o')
  (hng:o≠ .gone:=by intro h;cases h) (hng':o'≠ .gone:=by intro h;cases h) (hnr:Bi o'=false:=by rfl) (hny:∀st n it,o'≠ .yst st n it:=by intro _ _ _ h;cases h):
  Inv G (H.set nm o') loc ver w'/\Ext (envOf G H loc ver w) (envOf G (H.set nm o') loc ver w'):=by
 have hlt:nm<H.length:=(aL.1 hn).1;refine hI.turn nm si (fun k hk=>⟨bZ hk,rfl,rfl⟩) (fun _=>eM (aQ hlt) hnr) (fun _=>.inl ⟨rfl,rfl,.inl rfl⟩) om hos htp hout (by rw[hn];intro h;cases h;exact hng rfl) (fun _=>by rw[aQ hlt];intro h;cases h;exact hng' rfl) (fun st n it b h=>by rw[aQ hlt] at h;cases h;exact (hny _ _ _ rfl).elim) (fun b' _ h=>hblk b' fun e=>h o hn (by rw[e];exact hb)) ?_ ?_
 ·intro o₁ b₁ ho₁ hb₁;rw[aQ hlt] at ho₁;cases ho₁;exact .inl ⟨o,hn,hob _ hb₁⟩
 intro hx o₁ ho₁;rw[aQ hlt] at ho₁;cases ho₁;exact hnew hx
theorem Inv.grow {G:Ctx} {H:List HO} {loc:Nat->Loc} {ver:Nat->Nat} {w w':World} (hI:Inv G H loc ver w) (hb:Below w.heap.size w w'):
  Inv G H loc ver w'/\Ext (envOf G H loc ver w) (envOf G H loc ver w'):=by
 refine hI.turn H.length (aN _) (fun _ _=>⟨rfl,rfl,rfl⟩) (fun h=>h) (fun h=>by rw[sH] at h;cases h) hb.size hb.os hb.tape hb.output si (fun h=>by rw[sH] at h;cases h) (fun st n it b h=>by simp at h) (fun b h _=>hb.block b h) ?_ ?_
 ·intro o' b ho';simp at ho'
 intro _ o' ho';simp at ho'
def Res (G:Ctx) (E:Env) (K:SV->List HO->Prop) (v:Value) (w':World):Prop:=
 ∃s H' loc' ver',K s H'/\Inv G H' loc' ver' w'/\Rel (envOf G H' loc' ver' w') s v/\Ext E (envOf G H' loc' ver' w')
theorem Res.pure {G:Ctx} {H:List HO} {loc:Nat->Loc} {ver:Nat->Nat} {w:World} (hI:Inv G H loc ver w) {K:SV->List HO->Prop} {s:SV} {v:Value} (hk:K s H) (hr:Rel (envOf G H loc ver w) s v):Res G (envOf G H loc ver w) K v w:=
 ⟨s,H,loc,ver,hk,hI,hr,Ext.refl _⟩
def Opn (F:Fence):Prop:=∃ro,F= { Fence.wide with round:=ro }
theorem Opn.fn {F:Fence} (h:Opn F) (f:FuncId):F.fn f:=by obtain ⟨ro,rfl⟩:=h;trivial
theorem Opn.depth {F:Fence} (h:Opn F):F.depth=none:=by obtain ⟨ro,rfl⟩:=h;rfl
theorem Opn.calls {F:Fence} (h:Opn F) {n:Nat} {P:Program} {f:FuncId} {args:Array Value} {w:World} {R:Ending->World->Prop} (hc:Calls P f args w R):CallsIn F n P f args w R:=by
 obtain ⟨ro,rfl⟩:=h;exact callsIn_wide.2 hc
inductive OpOK (P:Program) (F:Fence) (o:Oper) (a:Act) (w:World) (R:Value->World->Prop):Prop where
 | value (v:Value) (w':World) (hr:(execOp a.eval o).run P w= .ok (.value v) w') (h:R v w'):OpOK P F o a w R
 | skip (w':World) (hr:(execOp a.eval o).run P w= .ok .skip w') (h:R undef w'):OpOK P F o a w R
 | yield (l:Nat) (args:Array Value) (hr:(execOp a.eval o).run P w=(Instr.yield l args).run P w) (h:YieldAt Fence.wide 0 P l args w fun e w'=>∃v,e= .returned v/\R v w'):OpOK P F o a w R
 | call (f:FuncId) (args:Array Value) (hr:(execOp a.eval o).run P w= .ok (.enter f args) w) (h:∀n,CallsIn F n P f args w fun e w'=>∃v,e= .returned v/\R v w'):OpOK P F o a w R
theorem OpOK.mono {P:Program} {F:Fence} {o:Oper} {a:Act} {w:World} {R R':Value->World->Prop} (h:OpOK P F o a w R) (hr:∀v w',R v w'->R' v w'):OpOK P F o a w R':=by
 cases h with
 | value v w' h1 h2=>exact .value v w' h1 (hr _ _ h2)
 | skip w' h1 h2=>exact .skip w' h1 (hr _ _ h2)
 | yield l args h1 h2=>exact .yield l args h1 (h2.mono fun e w' ⟨v,he,h⟩=>⟨v,he,hr _ _ h⟩)
 | call f args h1 h2=>exact .call f args h1 fun n=>(h2 n).mono fun e w' ⟨v,he,h⟩=>⟨v,he,hr _ _ h⟩
theorem OpOK.wpIn {P:Program} {F:Fence} {n:Nat} {o:Oper} {a:Act} {w:World} {R:Value->World->Prop} {next:Act->World->Prop} {Q:Exit->Act->World->Prop} (hF:Opn F) (hd:∀c,o.op≠ .defer c)
  (h:OpOK P F o a w R) (hn:∀v w',R v w'->next (a.put o.dst v) w'):o.wpIn F n P a w next Q:=by
 refine ⟨fun f _=>hF.fn f,?_⟩;rw[Oper.semAt_eq _ _ _ hd];cases h with
 | value v w' h1 h2=>rw[h1];exact hn _ _ h2
 | skip w' h1 h2=>rw[h1];exact hn _ _ h2
 | yield l args h1 h2=>
  obtain ⟨fn,tmps,assign,body,hy,hR⟩:=h2;rw[h1,hy];refine ⟨fun hs=>(by rw[hF.depth] at hs;cases hs),?_⟩;obtain ⟨ro,rfl⟩:=hF;refine RoundIn.mono (R:=fun e w'=>∃v,e= .returned v/\R v w') ⟨hR.1,fun c cs _=>hR.2 c cs (fun d h=>by cases h)⟩ ?_;rintro e w' ⟨v,rfl,h⟩;exact hn _ _ h
 | call f args h1 h2=>
  rw[h1];refine ⟨fun hs=>(by rw[hF.depth] at hs;cases hs),(h2 _).mono ?_⟩;rintro e w' ⟨v,rfl,h⟩;exact hn _ _ h
open Go.RowKit
theorem xE {k:IntKind} {n:Int} (h:inK k n):k.wrap n=n:=by
 obtain ⟨h1,h2⟩:=h;cases k<;>simp only[lo,hi] at h1 h2<;>simp only[IntKind.wrap,IntKind.bits,IntKind.signed]<;>simp<;>omega
theorem Rel.int_inv {E:Env} {k:IntKind} {n:Int} {v:Value} (h:Rel E (.val (.int k n)) v):v= .int k n/\inK k n:=by
 cases h with
 | val _ hw=>exact ⟨rfl,hw⟩
theorem Rel.bool_inv {E:Env} {b:Bool} {v:Value} (h:Rel E (.val (.bool b)) v):v= .bool b:=by cases h;rfl
theorem aB9 (E:Env) (v:Value):Rel E (cst v) v:=by
 cases v with
 | int k n=>
  simp only[cst];cases h:(decide (lo k<=n)&&decide (n<=hi k)) with
  | true=>simp at h;exact .val _ ⟨h.1,h.2⟩
  | false=>exact .any _
 | string s=>
  simp only[cst];cases h:Nat.ble s.data.toList.length 140737488355328 with
  | true=>
   have h2:s= ⟨s.data.toList.toArray⟩:=by cases s;simp
   conv=>rhs;rw[h2]
   exact .str _ (fF h)
  | false=>exact .any _
 | _=>exact .val _ trivial
theorem bK {a b:Nat}:Nat.beq a b=true↔a=b:=by rw[Nat.beq_eq]
theorem lV {a b:Nat} (h:a≠b):Nat.beq a b=false:=by
 cases e:Nat.beq a b with
 | false=>rfl
 | true=>exact absurd (bK.1 e) h
theorem gU (a:Nat):Nat.beq a a=true:=bK.2 rfl
theorem qO (l:List (Nat × SV)) (t u:Nat) (v:SV):look (put l t v) u=if u=t then v else look l u:=by
 induction l with
 | nil=>
  simp only[put,look];by_cases e:u=t
  ·subst e;simp[gU]
  simp[lV (Ne.symm e),e]
 | cons p r ih=>
  obtain ⟨i,x⟩:=p;simp only[put];by_cases e:i=t
  ·subst e;rw[gU];simp only[bR,look];by_cases e2:u=i
   ·subst e2;simp[gU]
   simp[lV (Ne.symm e2),e2]
  rw[lV e];simp only[cD,look];by_cases e2:i=u
  ·subst e2;simp[gU,e]
  rw[lV e2];simp only[cD];exact ih
structure TRel (E:Env) (N:Nat) (l:List (Nat × SV)) (a:Act):Prop where
 size:a.tmps.size=N
 rel:∀t,Rel E (look l t) (a.tmps.getD t undef)
theorem TRel.ext0 {E E':Env} {N:Nat} {l:List (Nat × SV)} {a:Act} (h:TRel E N l a) (x:Ext0 E E'):TRel E' N l a:=⟨h.size,fun t=>(h.rel t).ext0 x⟩
theorem TRel.ext {E E':Env} {N:Nat} {l:List (Nat × SV)} {a:Act} (h:TRel E N l a) (x:Ext E E'):TRel E' N l a:=⟨h.size,fun t=>(h.rel t).ext x⟩
theorem yY (a:Act) (d t:Nat) (v:Value) (h:d<a.tmps.size):(a.put (some d) v).tmps.getD t undef=if t=d then v else a.tmps.getD t undef:=by
 simp only[Act.put,bM];rw[cK];by_cases e:t=d
 ·subst e;simp[h]
 have:¬d=t:=fun h=>e h.symm;simp[this,e]
theorem TRel.put {E:Env} {N:Nat} {l:List (Nat × SV)} {a:Act} (h:TRel E N l a) {d:Nat} (hd:d<N) {s:SV} {v:Value} (hr:Rel E s v):TRel E N (put l d s) (a.put (some d) v):=by
 refine ⟨by simp[Act.put,h.size],fun t=>?_⟩;rw[qO,yY a d t v (by rw[h.size];exact hd)];by_cases e:t=d
 ·rw[aD e,aD e];exact hr
 rw[aC e,aC e];exact h.rel t
theorem TRel.any {E:Env} {N:Nat} {l:List (Nat × SV)} {a:Act} (h:TRel E N l a) (o:Option Nat) {v:Value} {K:List (Nat × SV)->Prop} {s:SV} (hk:setT N l o s K) (hr:Rel E s v):∃l',K l'/\TRel E N l' (a.put o v):=by
 cases o with
 | none=>exact ⟨l,hk,h⟩
 | some t=>
  simp only[setT] at hk;cases hb:Nat.blt t N with
  | false=>rw[hb] at hk;cases hk
  | true=>
   rw[hb] at hk;simp only[bR,bY] at hk;exact ⟨_,hk,h.put (by simpa using hb) hr⟩
theorem nI {E:Env} {N:Nat} {l:List (Nat × SV)} {a:Act} (h:TRel E N l a) (x:Operand):Rel E (ev l x) (a.eval x):=by
 cases x with
 | tmp t=>exact h.rel t
 | const v=>exact aB9 E v
 | global g=>exact .any _
 | func f=>exact .clo f [] [] [] [] .nil .nil
theorem Al {E:Env} {N:Nat} {l:List (Nat × SV)} {a:Act} (h:TRel E N l a) (xs:List Operand):RelL E (xs.map (ev l)) (xs.map a.eval):=by
 induction xs with
 | nil=>exact .nil
 | cons x r ih=>exact .cons _ _ _ _ (nI h x) ih
theorem yJ (P:Program) (w:World) (op:BinOp) (t:TypeId) (x y:Operand) (k k':IntKind) (a b:Int):(eqGuard op t x y (.int k a) (.int k' b)).run P w= .ok () w:=by
 cases op<;>simp[eqGuard]
theorem yZ (k:IntKind) (n:Int):inK k (k.wrap n):=by
 cases k<;>simp only[inK,IntKind.wrap,lo,hi,IntKind.bits,IntKind.signed]<;>simp<;>omega
theorem Mv {P:Program} {w:World} {E:Env} {op:BinOp} {k k':IntKind} {a b:Int} {K:SV->Prop} (h:Qc op k a b K) (ha:inK k a) (t:TypeId):
  ∃v s,(binOp op t (.int k a) (.int k' b)).run P w= .ok v w/\K s/\Rel E s v:=by
 cases op<;>simp only[Qc] at h;case shl=>
  obtain ⟨h1,h2⟩:=h;exact ⟨_,_,by simp[binOp,Op.shift,show ¬b<0 by omega,shlI],h2,.val _ (yZ _ _)⟩
 case shr=>
  obtain ⟨h1,h2⟩:=h;refine ⟨.int k (shrI k a b),_,by simp[binOp,Op.shift,show ¬b<0 by omega,shrI],h2,.val _ ?_⟩;obtain ⟨l1,l2⟩:=ha;have h0:lo k<=0:=by cases k<;>simp[lo]
  have h9:0<=hi k:=by cases k<;>simp[hi]
  have hp:(0:Int)<2^ (min b.toNat k.bits):=zU de;have e:shrI k a b=a/2^ (min b.toNat k.bits):=Int.fdiv_eq_ediv_of_nonneg _ (dW hp);rw[e];generalize (2:Int)^ (min b.toNat k.bits)=q at hp;by_cases hn:0<=a
  ·have e1:0<=a/q:=dU hn om;have e2:a/q<=a:=sA q hn;exact ⟨om,om⟩
  have e1:a<=a/q:=by
   refine Int.le_ediv_of_mul_le hp ?_;have:a*q<=a*1:=lQ om om;omega
  have e2:a/q<0:=Int.ediv_neg_of_neg_of_pos om hp;exact ⟨om,om⟩
 all_goals exact h.elim
theorem Up {P:Program} {w:World} {E:Env} {op:BinOp} {k:IntKind} {a b:Int} {K:SV->Prop} (h:aGc op k a b K) (ha:inK k a) (hb:inK k b) (t:TypeId):
  ∃v s,(binOp op t (.int k a) (.int k b)).run P w= .ok v w/\K s/\Rel E s v:=by
 cases op<;>simp only[aGc] at h;case add=>obtain ⟨h1,h2⟩:=Ac h;exact ⟨_,_,by simp[binOp,Op.intArith,xE h1],h2,.val _ h1⟩
 case sub=>obtain ⟨h1,h2⟩:=Ac h;exact ⟨_,_,by simp[binOp,Op.intArith,xE h1],h2,.val _ h1⟩
 case mul=>obtain ⟨h1,h2⟩:=Ac h;exact ⟨_,_,by simp[binOp,Op.intArith,xE h1],h2,.val _ h1⟩
 case and=>exact ⟨_,_,by simp[binOp,Op.intBits,yS],h,.val _ (yZ _ _)⟩
 case or=>exact ⟨_,_,by simp[binOp,Op.intBits,yS],h,.val _ (yZ _ _)⟩
 case xor=>exact ⟨_,_,by simp[binOp,Op.intBits,yS],h,.val _ (yZ _ _)⟩
 case andNot=>exact ⟨_,_,by simp[binOp,Op.intBits,yS],h,.val _ (yZ _ _)⟩
 case quo=>
  rcases h.or with h | h;case inr=>
   obtain ⟨h1,h2⟩:=h;obtain ⟨h3,h4⟩:=Ac h2;exact ⟨_,_,by simp[binOp,Op.intDiv,h1,xE h3],h4,.val _ h3⟩
  obtain ⟨⟨h1,h2⟩,h3⟩:=h;have h4:inK k (a/b):=by
   have e1:0<=a/b:=dU h1 om;have e2:a/b<=a:=sA b h1;obtain ⟨l1,l2⟩:=ha
   exact ⟨by have:lo k<=0:=by cases k<;>simp[lo]
             omega,om⟩
  exact ⟨_,_,by simp[binOp,Op.intDiv,show b≠0 by omega,kA h1,xE h4],h3,.val _ h4⟩
 case rem=>
  rcases h.or with h | h;case inr=>
   obtain ⟨h1,h2⟩:=h;refine ⟨_,_,by simp[binOp,Op.intDiv,h1],h2,.val _ ?_⟩;obtain ⟨l1,l2⟩:=ha;have h0:lo k<=0:=by cases k<;>simp[lo]
   have h9:0<=hi k:=by cases k<;>simp[hi]
   by_cases hp:0<=a
   ·have e1:=sW b hp;have e2:a.tmod b<=a:=by
     have:=iD a b;have:=Nat.mod_le a.natAbs b.natAbs;omega
    exact ⟨om,om⟩
   have e2:a.tmod b<=0/\a<=a.tmod b:=by
    have h5:(-a).tmod b= -(a.tmod b):=Int.neg_tmod a b;have h6:=sW b (show 0<= -a by omega);have h7:=iD (-a) b;have h8:=Nat.mod_le (-a).natAbs b.natAbs;omega
   exact ⟨om,om⟩
  obtain ⟨⟨h1,h2⟩,h3⟩:=h;have h4:inK k (a%b):=by
   have e1:0<=a%b:=jA a om;have e2:a%b<b:=fQ a h2;obtain ⟨l1,l2⟩:=hb
   exact ⟨by have:lo k<=0:=by cases k<;>simp[lo]
             omega,om⟩
  exact ⟨_,_,by simp[binOp,Op.intDiv,show b≠0 by omega,fR h1],h3,.val _ h4⟩
 case eql=>exact ⟨_,_,by simp[binOp,Op.intCmp];rfl,h,.bl _ _⟩
 case neq=>
  refine ⟨_,_,by simp[binOp,Op.intCmp];rfl,h,?_⟩;have e:(a != b)=decide (¬a=b):=by by_cases e:a=b<;>simp[e]
  rw[e];exact .bl _ _
 case lss=>exact ⟨_,_,by simp[binOp,Op.intCmp],h,.bl _ _⟩
 case leq=>exact ⟨_,_,by simp[binOp,Op.intCmp],h,.bl _ _⟩
 case gtr=>exact ⟨_,_,by simp[binOp,Op.intCmp],h,.bl _ _⟩
 case geq=>exact ⟨_,_,by simp[binOp,Op.intCmp],h,.bl _ _⟩
 all_goals exact h.elim
theorem aJp {k:IntKind} {a b:Int} (ha:inK k a) (hb:inK k b):inK k (max a b):=by
 obtain ⟨a1,a2⟩:=ha;obtain ⟨b1,b2⟩:=hb;exact ⟨om,om⟩
theorem aJq {k:IntKind} {a b:Int} (ha:inK k a) (hb:inK k b):inK k (min a b):=by
 obtain ⟨a1,a2⟩:=ha;obtain ⟨b1,b2⟩:=hb;exact ⟨om,om⟩
theorem aDw {P:Program} {t:TypeId} (h:aggB P t=some true):∃d,P.underlying t=some d/\d.isRow=true:=by
 unfold aggB at h;split at h<;>first | (rename_i e;exact ⟨_,e,rfl⟩) | (cases h;done) | (simp at h;done)
theorem wC {P:Program} {t:TypeId} {b:Bool} (h:aggB P t=some b) (w:World):(isAgg t).run P w= .ok b w:=by
 unfold aggB at h;unfold isAgg;cases hu:P.underlying t with
 | none=>rw[hu] at h;cases h
 | some d=>
  rw[hu] at h;rw[Sem.run_bind,run_underlying hu w];cases d<;>simp_all
theorem Ci {P:Program} {t:TypeId} {n:Nat} (h:jS P t=some n):∃i,P.info? t=some i/\i.size=n:=by
 unfold jS at h;cases hi:P.info? t with
 | none=>rw[hi] at h;cases h
 | some i=>rw[hi] at h;exact ⟨i,rfl,by simpa using h⟩
theorem jV {P:Program} {t:TypeId} {n:Nat} (h:jS P t=some n) (w:World):(sizeOf t).run P w= .ok n w:=by
 obtain ⟨i,hi,rfl⟩:=Ci h;simp[sizeOf,typeInfo,hi]
theorem uG {P:Program} {t:TypeId} {z:List SV} (h:sV P t=some z) (w:World):∃v:Value,(zeroValue t).run P w= .ok v w/\z=v.cells.toList.map cst:=by
 unfold sV at h;cases hi:P.info? t with
 | none=>rw[hi] at h;cases h
 | some i=>
  rw[hi] at h;simp only at h;cases hz:i.zero with
  | none=>rw[hz] at h;cases h
  | some v=>
   rw[hz] at h;exact ⟨v,by simp[zeroValue,typeInfo,hi,hz],by simpa using h.symm⟩
theorem uH (E:Env) (l:List Value):RelL E (l.map cst) l:=by
 induction l with
 | nil=>exact .nil
 | cons v r ih=>exact .cons _ _ _ _ (aB9 E v) ih
theorem vQ {P:Program} {w:World} {t:TypeId} {b off:Nat} {v:Value} (ha:aggB P t=some false) (hc:w.cell? ⟨b,off,none⟩=some v):(Instr.loadAt t (.pointer (some ⟨b,off,none⟩))).run P w= .ok v w:=by
 simp[Instr.loadAt,Instr.sureAddr,loadVar,wC ha,hc]
theorem nY {P:Program} {E:Env} {t:TypeId} {ag:Bool} {sz off b base:Nat} {l:List SV} {vs:List Value} {K:SV->Prop} (h:oP ag off sz l K) (ha:aggB P t=some ag) (hs:jS P t=some sz)
  (hl:RelL E l vs) (hr:E.w.rangeAt b base vs):∃v s,(Instr.loadAt t (.pointer (some ⟨b,base+off,none⟩))).run P E.w= .ok v E.w/\K s/\Rel E s v:=by
 cases ag with
 | true=>
  simp only[oP] at h;cases hb:Nat.ble (off+sz) l.length with
  | false=>rw[hb] at h;cases h
  | true=>
   rw[hb] at h;simp only[bR,bY] at h;have hle:off+sz<=vs.length:=by rw[<- hl.length];exact fF hb
   have hlen:((vs.drop off).take sz).length=sz:=by simp;omega
   obtain ⟨d,hd,hrow⟩:=aDw ha;obtain ⟨i,hi,hsz⟩:=Ci hs;have hr':E.w.rangeAt b (base+off) ((vs.drop off).take sz):=by
    intro j v hj;rw[jN];apply hr;rw[aU] at hj;split at hj
    ·rw[bD] at hj;exact hj
    cases hj
   exact ⟨_,_,run_loadAt_mid _ _ _ _ _ _ hr' hd hrow (by rw[hi,hlen];simp[hsz]),h,.agg _ _ ((hl.drop off).take sz)⟩
 | false=>
  simp only[oP] at h;cases hb:Nat.blt off l.length with
  | false=>rw[hb] at h;cases h
  | true=>
   rw[hb] at h;simp only[bR,jR] at h;have hlt:off<l.length:=by simpa using hb
   have hlt':off<vs.length:=by rw[<- hl.length];exact hlt
   have hg:=hl.get off hlt;have e:vs[off]? =some (vs.getD off undef):=by simp[hlt']
   exact ⟨_,_,vQ ha (hr off _ e),h,hg⟩
theorem aX {H:List HO} {nm:Nat} {o:HO} (h:hget H nm=o) (hd:o≠ .dead):H[nm]? =some o:=by
 unfold hget at h;rw[aB] at h;cases hn:H[nm]? with
 | none=>rw[hn] at h;exact (hd h.symm).elim
 | some x=>rw[hn] at h;simpa using h
theorem aG0 {E:Env} {L:Loc} {v k:Nat} {t:Ty} {xs:List t.T} {e:TypeId} (h:OSat E L v (.vec k t xs e)) {i:Nat} (hi:i<L.len):
  ∃b es,L.blk=some (b,0)/\E.w.rangeAt b (0+i*t.size) es/\Reads E.w E.ok t (xs.getD i t.dflt) es:=by
 obtain ⟨_,_,h1,h2,vs,h3,h4⟩:=h;rcases dJ h3 with ⟨_,_,h5,_⟩ | ⟨g,cur,h5,_,h6,h7,_,h8,h9⟩
 ·omega
 refine ⟨g,_,h5,?_,h4 i hi⟩;intro j v hj;rw[aU] at hj;split at hj
 ·rename_i hlt;rw[bD,<- h9,aU] at hj;split at hj
  ·have:(⟨g,0+i*t.size+j,none⟩:Addr).off=i*t.size+j:=by simp
   simp only[World.cell?,h6];simpa using hj
  cases hj
 cases hj
section
variable {P:Program} {G:Ctx} {H:List HO} {loc:Nat->Loc} {ver:Nat->Nat} {w:World}
theorem Jy (hI:Inv G H loc ver w) {k m:Nat} {it:Nat->List SV} (ho:hget H 0= .yst (some k) m it) (hs:G.itr.soft=true):softC m G.itr.sf w:=by
 obtain ⟨_,_,_,hn,_,_,hJ⟩:=hI.objs 0 _ (aX ho si);have hn:m=G.itr.n:=hn;rw[hn];exact G.itr.softJ hs _ _ _ hJ
theorem Ra (hI:Inv G H loc ver w) {t:TypeId} {s:SV} {x:Value} {K:SV->Prop} (h:Yb P t H s K) (hs:Rel (envOf G H loc ver w) s x):
  ∃v s',(Instr.loadAt t x).run P w= .ok v w/\K s'/\Rel (envOf G H loc ver w) s' v:=by
 unfold Yb at h;cases ha:aggB P t with
 | none=>rw[ha] at h;cases h
 | some ag=>
 cases hz:jS P t with
 | none=>rw[ha,hz] at h;cases h
 | some sz=>
 rw[ha,hz] at h;simp only at h;cases hs with
 | ptr nm off _ hn hp=>
  simp only at h;cases ho:hget H nm with
  | cells l e=>
   rw[ho] at h;have hO:=hI.objs nm _ (aX ho si);obtain ⟨h0,b,vs,h1,h2,h3⟩:=hO;obtain ⟨b',hb',rfl⟩:=hp h0;have e1:(loc nm).blk=some (b',0):=hb';rw[h1] at e1;cases e1;have:=nY (P:=P) (base:=0) (b:=b) h ha hz h3 (fun j v hj=>by simp[World.cell?,h2,hj]);simpa [envOf] using this
  | _=>rw[ho] at h;cases h
 | elem ty xs i o b off es hi hok hr hrd=>
  simp only[Jc] at h;have h':=hrd.giv h;exact nY (P:=P) h' ha hz hrd.enc hr
 | lelem l i b off vs hl hok hr=>
  exact nY (P:=P) h ha hz hl hr
 | wcel n b e hw hok hr=>
  have hr':w.heap[b]? =some (.cells ⟨[.int .i64 n]⟩ e (0,0)):=hr
  have:=nY (P:=P) (base:=0) (b:=b) (E:=envOf G H loc ver w) (vs:=[.int .i64 n]) h ha hz (.cons _ _ _ _ (.val _ hw) .nil) (fun j v hj=>by
   have hr2:(envOf G H loc ver w).w.heap[b]? =some (.cells ⟨[.int .i64 n]⟩ e (0,0)):=hr;cases j with
   | zero=>simp at hj;subst hj;simp[World.cell?,hr2]
   | succ j=>simp at hj)
  simpa [envOf] using this
 | vptr nm k i z o _ hn h0 hk hp=>
  simp only at h;cases ho:hget H nm with
  | vec v ty xs e=>
   rw[ho] at h;simp only at h;cases hb:(Nat.beq v k&&Nat.beq z ty.size) with
   | false=>rw[hb] at h;cases h
   | true=>
    rw[hb] at h;simp only[bR] at h;simp only[aE,bK] at hb;obtain ⟨rfl,rfl⟩:=hb;have hO:=hI.objs nm _ (aX ho si);have hv:ver nm=v:=hO.1;obtain ⟨hlt,b,off,hbk,rfl⟩:=hp hv.symm;obtain ⟨b',es,hb',hr,hrd⟩:=aG0 hO hlt;have e1:(loc nm).blk=some (b,off):=hbk;rw[hb'] at e1;cases e1;rw[Jc] at h;have h':=hrd.giv h;exact nY (P:=P) h' ha hz hrd.enc hr
  | _=>rw[ho] at h;cases h
 | sft i _ hon hv=>
  cases i with
  | none=>cases h
  | some i=>
   simp only at h;split at h;case h_2=>cases h
   rename_i k m it ho;cases hb:(!ag&&Nat.beq sz 1) with
   | false=>rw[hb] at h;cases h
   | true=>
   rw[hb] at h;simp only[bR] at h;obtain ⟨hlt,hK⟩:=h;simp only[aE,nC,bK] at hb;obtain ⟨rfl,rfl⟩:=hb;obtain ⟨_,_,hrow⟩:=Jy hI ho hv.1;obtain ⟨_,b,hb,rfl⟩:=hv;rcases hrow with h0 | ⟨g,cur,e,fz,h1,_,h2,h3⟩
   ·omega
   have hb:G.itr.sf.blk=some (b,0):=hb;have hgb:g=b:=by rw[h1] at hb;simpa using hb
   subst hgb;have hc:w.cell? ⟨g,i,none⟩=some (cur[i]'(by omega)):=by simp[World.cell?,h2,show i<cur.size by omega]
   exact ⟨_,_,vQ ha hc,hK,.any _⟩
 | _=>cases h
end
end Go.Eng
end
section
namespace Go.Eng
open Go.RowKit
theorem and4 {a b c d:Bool} (h:(a&&b&&c&&d)=true):a=true/\b=true/\c=true/\d=true:=by simpa [and_assoc] using h
theorem bA {c:Bool} {p:Prop} (h:bif c then p else False):c=true/\p:=by
 cases c with
 | false=>cases h
 | true=>exact ⟨rfl,h⟩
section
variable {P:Program} {G:Ctx} {H:List HO} {loc:Nat->Loc} {ver:Nat->Nat} {w:World}
theorem Jz (hI:Inv G H loc ver w) {s:SV} {v:Value} (h:Rel (envOf G H loc ver w) s v) (hc:oneC H s=true):v.oneCell'=true:=by
 cases h with
 | any=>cases hc
 | val v h=>cases v<;>first | rfl | cases hc
 | bl=>rfl
 | str=>rfl
 | seq t xs v h=>obtain ⟨a,n,c,e,_⟩:=h;cases e;rfl
 | lit=>rfl
 | elem=>rfl
 | lelem=>rfl
 | wcel=>rfl
 | fmp=>rfl
 | ptr nm off v hn h=>
  simp only[oneC] at hc;cases ho:hget H nm with
  | cells l e=>
   have hO:=hI.objs nm _ (aX ho si);obtain ⟨b,_,rfl⟩:=h hO.1;rfl
  | _=>rw[ho] at hc;cases hc
 | ref nm k v hn h0 hk h=>
  simp only[oneC] at hc;cases ho:hget H nm with
  | vec j t xs e=>
   rw[ho] at hc;obtain rfl:=bK.1 hc;have hO:=hI.objs nm _ (aX ho si);rw[h hO.1.symm];rfl
  | fro j t xs=>
   rw[ho] at hc;obtain rfl:=bK.1 hc;have hO:=hI.objs nm _ (aX ho si);rw[h hO.1.symm];rfl
  | vv j s t xss pd eo ei=>
   rw[ho] at hc;obtain rfl:=bK.1 hc;have hO:=hI.objs nm _ (aX ho si);rw[h hO.1.symm];rfl
  | _=>rw[ho] at hc;cases hc
 | mp nm v hn h=>
  simp only[oneC] at hc;cases ho:hget H nm with
  | map k t m=>
   have hO:=hI.objs nm _ (aX ho si);obtain ⟨b,_,rfl⟩:=h hO.1;rfl
  | qm ks l=>
   have hO:=hI.objs nm _ (aX ho si);obtain ⟨b,_,rfl⟩:=h hO.1;rfl
  | _=>rw[ho] at hc;cases hc
 | vptr=>cases hc
 | sub=>cases hc
 | subp=>cases hc
 | part=>cases hc
 | lim=>cases hc
 | ifc v h=>
  rcases h with rfl | ⟨t,x,rfl⟩
  ·rfl
  rfl
 | wide=>cases hc
 | agg=>cases hc
 | tup=>cases hc
 | clo=>rfl
 | yld=>rfl
 | sft=>cases hc
theorem Rb {v:Value} (h:v.oneCell'=true):v.cells= #[v]:=by cases v<;>first | rfl | cases h
theorem tR (hI:Inv G H loc ver w) {s:SV} {v:Value} (h:Rel (envOf G H loc ver w) s v) (hc:Jd H s=true):RelL (envOf G H loc ver w) (eH s) v.cells.toList:=by
 have key:oneC H s=true->eH s= [s]->RelL (envOf G H loc ver w) (eH s) v.cells.toList:=by
  intro h1 h2;rw[h2,Rb (Jz hI h h1)];exact .cons _ _ _ _ h .nil
 cases s with
 | agg l=>cases h with
  | agg _ vs hl=>exact hl
 | _=>exact key hc rfl
theorem Ha (hI:Inv G H loc ver w):∀ {l:List SV} {vs:List Value},RelL (envOf G H loc ver w) l vs->aBj H l=true->∀v∈vs,v.oneCell'=true
 | _,_,.nil,_=>by simp
 | _,_,.cons s v l vs h hl,hc=>by
  simp only[aBj,aE] at hc;intro u hu;rcases bH.1 hu with rfl | hu
  ·exact Jz hI h hc.1
  exact Ha hI hl hc.2 u hu
theorem Uq (r l:List Value) (off:Nat) (h:off+r.length<=l.length):kC l off r=l.take off++r++l.drop (off+r.length):=by
 apply fY;intro i;rw[wB r l off i h];by_cases h1:i<off
 ·rw[aC om,cC,bU (by simp;omega),aU,aD h1]
 by_cases h2:i<off+r.length
 ·rw[aD om,cC,cS (by simp;omega),bU (by simp;omega)];congr 1;simp;omega
 rw[aC om,cC,cS (by simp;omega),cS (by simp;omega),bD];congr 1;simp;omega
theorem vE {b off:Nat} {t e:TypeId} {sz:Nat} {cs:List Value} {v:Value} (hs:jS P t=some sz) (hb:w.heap[b]? =some (.cells ⟨cs⟩ e (0,0))) (hl:v.cells.toList.length=sz) (h1:∀u∈v.cells.toList,u.oneCell'=true) (hf:off+sz<=cs.length):
  (Instr.storeAt t (.pointer (some ⟨b,off,none⟩)) v).run P w= .ok () (w.setRow b ⟨kC cs off v.cells.toList⟩):=by
 have hst:=run_storeCells_at P b off e v.cells.toList 0 ⟨cs⟩ w hb (by simp at hl ⊢;omega) h1;simp only[Nat.add_zero] at hst;have e1:kC cs off v.cells.toList=cs.take off++v.cells.toList++cs.drop (off+v.cells.toList.length):=Uq _ _ _ om;rw[e1];have hsz:¬v.cells.size≠sz:=by simpa using hl
 simp only[Instr.storeAt,Instr.sureAddr,storeVar,Sem.run_bind,Sem.run_pure,Result.andThen_ok,jV hs,aC hsz];simpa using hst
theorem Ur {b:Nat} {cs cs':Array Value} {e:TypeId} {f:Nat × Nat} (h:w.heap[b]? =some (.cells cs e f)) (hc:cs'=cs):w.setRow b cs'=w:=by
 subst hc;unfold World.setRow;congr 1
 apply uW;intro i;rw[rF];split
 ·rename_i e;subst e;rw[h];rfl
 rfl
theorem Bm (hI:Inv G H loc ver w) {t:TypeId} {s x:SV} {p v:Value} {K:List HO->Prop} (h:Ii P t H s x K) (hp:Rel (envOf G H loc ver w) s p) (hx:Rel (envOf G H loc ver w) x v):
  ∃H' w',(Instr.storeAt t p v).run P w= .ok () w'/\K H'/\Inv G H' loc ver w'/\Ext (envOf G H loc ver w) (envOf G H' loc ver w'):=by
 unfold Ii at h;cases hz:jS P t with
 | none=>rw[hz] at h;cases hp<;>cases h
 | some sz=>
 rw[hz] at h;cases hp with
 | ptr nm off _ hn hp=>
  simp only at h;cases ho:hget H nm with
  | cells l e=>
   rw[ho] at h;obtain ⟨hb,h⟩:=bA h;simp only[bY] at h;obtain ⟨b1,b2,b3,b4⟩:=and4 hb;have hn':=aX ho si;obtain ⟨h0,b,vs,h1,h2,h3⟩:=hI.objs nm _ hn';obtain ⟨b',hb',rfl⟩:=hp h0;have e1:(loc nm).blk=some (b',0):=hb';rw[h1] at e1;cases e1;have hcx:=tR hI hx b1;have hlen:=hcx.length;have hlv:=h3.length;have b3':=bK.1 b3;have b4':=fF b4;have hrun:=vE (P:=P) (w:=w) (v:=v) (off:=off) hz h2 om (Ha hI hcx b2) om;have hin:=hI.inPlace (w':=w.setRow b ⟨kC vs off v.cells.toList⟩) (o':=.cells (setCells l off (eH x)) e) hn' (b:=b) (by simp[Owns,h1]) (fun _ h=>h) si rfl rfl rfl (fun b' hb'=>setRow_other w b b' _ hb')
    (fun hx'=>⟨h0,b,_,h1,setRow_heap w b _ _ e _ h2,(h3.ext hx').setCells (hcx.ext hx') off⟩)
   exact ⟨_,_,hrun,h,hin.1,hin.2⟩
  | _=>rw[ho] at h;cases h
 | vptr nm k i z o _ hn h0 hk hp=>
  simp only at h;cases ho:hget H nm with
  | vec j ty xs e=>
   rw[ho] at h;simp only at h;obtain ⟨hb,h'⟩:=bA h;rw[Jc] at h';obtain ⟨hk2,hK⟩:=bA h';cases hd:dec ty (setCells (enc ty (xs.getD i ty.dflt)) o (eH x)) with
   | none=>rw[hd] at hK;cases hK
   | some y=>
   rw[hd] at hK;simp only[bY] at hK;simp only[aE,bK,yF] at hb;obtain ⟨⟨⟨⟨b1,rfl⟩,rfl⟩,b3⟩,b4⟩:=hb;have hn':=aX ho si;have hO:=hI.objs nm _ hn';obtain ⟨hv,hk0,hlen,hmax,vs,hown,hel⟩:=hO;have hv':ver nm=j:=hv;obtain ⟨hlt,b,off,hbk,rfl⟩:=hp hv'.symm;have hbk':(loc nm).blk=some (b,off):=hbk;have hlt':i<(loc nm).len:=hlt;rcases dJ hown with ⟨e1,_⟩ | ⟨g,cur,e1,e2,e3,e4,e5,e6,e7⟩
   ·rw[hbk'] at e1;cases e1
   rw[hbk'] at e1;cases e1;have hcx:=tR hI hx b1;have hcl:=hcx.length;have hes:=hel i hlt';have hesl:=hes.length;have hnew:RelL (envOf G H loc ver w) (setCells (enc ty (xs.getD i ty.dflt)) o (eH x)) (kC ((vs.drop (i*ty.size)).take ty.size) o v.cells.toList):=(hes.enc).setCells hcx o;have hrd:=Ak hnew hd hk2;have hvl:vs.length=(loc nm).len*ty.size:=hown.1;have hmul:i*ty.size+ty.size<=(loc nm).len*ty.size:=by
    have:(i+1)*ty.size<=(loc nm).len*ty.size:=bQ _ hlt';rwa [cL,iC] at this
   have hcurl:(loc nm).cap*ty.size<=cur.toList.length:=by simpa using e6
   have hcap:(loc nm).len*ty.size<=(loc nm).cap*ty.size:=bQ _ e4;have hones:∀u∈v.cells.toList,u.oneCell'=true:=by
    intro u hu;apply hrd.one;obtain ⟨q,hq,rfl⟩:=dD hu;have hg:=wB v.cells.toList ((vs.drop (i*ty.size)).take ty.size) o (o+q) (by rw[hesl];omega);rw[aD om] at hg;have e9:o+q-o=q:=om;rw[e9,aM hq] at hg;exact kU hg
   have hcur:w.heap[b]? =some (.cells ⟨cur.toList⟩ e (0,0)):=e3;have hrun:=vE (P:=P) (w:=w) (v:=v) (off:=0+i*ty.size+o) hz hcur om hones om;have hset:∀m,(kC cur.toList (0+i*ty.size+o) v.cells.toList)[m]? =if i*ty.size+o<=m/\m<i*ty.size+o+v.cells.toList.length then v.cells.toList[m-(i*ty.size+o)]? else cur.toList[m]? :=by
    intro m;rw[wB _ _ _ _ om];simp only[eJ]
   have hin:=hI.inPlace (w':=w.setRow b ⟨kC cur.toList (0+i*ty.size+o) v.cells.toList⟩) (o':=.vec j ty (xs.set i y) e) hn' (b:=b) (by simp[Owns,hbk']) (fun _ h=>h) si rfl rfl rfl (fun b' hb'=>setRow_other w b b' _ hb')
    (fun hx'=>by
     refine ⟨hv,hk0,by simpa using hlen,hmax,(kC cur.toList (0+i*ty.size+o) v.cells.toList).take ((loc nm).len*ty.size),?_,?_⟩
     ·refine ⟨by rw[aY,qN];omega,.inr ⟨b,(loc nm).cap,_,?_,aK _,setRow_heap w b _ _ e _ hcur,e4,e5,?_,rfl⟩⟩
      ·simp[Core.head,hbk']
      show _<=(kC cur.toList _ _).length;rw[qN];exact hcurl
     intro m hm;have hm2:m*ty.size+ty.size<=(loc nm).len*ty.size:=by
      have:(m+1)*ty.size<=(loc nm).len*ty.size:=bQ _ hm;rwa [cL,iC] at this
     by_cases e:m=i
     ·subst e;have e10:(((kC cur.toList (0+m*ty.size+o) v.cells.toList).take ((loc nm).len*ty.size)).drop (m*ty.size)).take ty.size=kC ((vs.drop (m*ty.size)).take ty.size) o v.cells.toList:=by
       apply fY;intro q;rw[wB _ _ _ _ (by rw[hesl];omega),aU,bD,aU,hset,<- e7];by_cases hq:q<ty.size
       ·rw[aD hq,aD om];by_cases hq2:o<=q/\q<o+v.cells.toList.length
        ·rw[aD om,aD hq2];congr 1;omega
        rw[aC om,aC hq2,aU,aD hq,bD,aU,aD om]
       rw[aC hq,aC om,aU,aC hq]
      rw[e10];have e11:List.getD (α:=ty.T) (xs.set m y) m ty.dflt=y:=by
       have:m<xs.length:=by rw[<- hlen];exact hlt'
       simp[aB,this]
      rw[e11];exact hrd.mono hx'.cell hx'.ok
     have e10:(((kC cur.toList (0+i*ty.size+o) v.cells.toList).take ((loc nm).len*ty.size)).drop (m*ty.size)).take ty.size=(vs.drop (m*ty.size)).take ty.size:=by
      apply fY;intro q;rw[aU,bD,aU,hset,<- e7,aU,bD,aU];by_cases hq:q<ty.size
      ·have c1:m*ty.size+q<(loc nm).len*ty.size:=om;have c2:¬(i*ty.size+o<=m*ty.size+q/\m*ty.size+q<i*ty.size+o+v.cells.toList.length):=by
        intro hc;rcases Nat.lt_or_gt_of_ne e with h1 | h1
        ·have:(m+1)*ty.size<=i*ty.size:=bQ _ h1;rw[cL,iC] at this;omega
        have:(i+1)*ty.size<=m*ty.size:=bQ _ h1;rw[cL,iC] at this;omega
       rw[aD hq,aD c1,aC c2,aD hq,aD c1]
      rw[aC hq,aC hq]
     rw[e10];have e11:List.getD (α:=ty.T) (xs.set i y) m ty.dflt=xs.getD m ty.dflt:=by
      simp[aB,eP,Ne.symm e]
     rw[e11]
     exact (hel m hm).mono hx'.cell hx'.ok)
   exact ⟨_,_,hrun,hK,hin.1,hin.2⟩
  | _=>rw[ho] at h;cases h
 | wcel n b e hw hok hr=>
  simp only at h;split at h;case h_2=>cases h
  rename_i m;obtain ⟨hb,hm,hK⟩:=bA h;have hb:=bK.1 hb;subst hb hm;cases hx with
  | val _ _=>
  have hr':w.heap[b]? =some (.cells ⟨[.int .i64 m]⟩ e (0,0)):=hr;have hrun:=vE (P:=P) (w:=w) (v:=.int .i64 m) (off:=0) hz hr' (by simp[Value.cells]) (by intro u hu;simp[Value.cells] at hu;subst hu;rfl) si;exact ⟨_,_,hrun,by rw[Ur hr' (by simp[Value.cells,kC])];exact ⟨hK,hI,Ext.refl _⟩⟩
 | _=>cases h
theorem wD (hI:Inv G H loc ver w) {nm off:Nat} {p:Value} (hp:Rel (envOf G H loc ver w) (.ptr nm off) p) (hl:live H (.ptr nm off)=true):∃b,(loc nm).blk=some (b,0)/\p= .pointer (some ⟨b,off,none⟩):=by
 cases hp with
 | ptr nm off _ hn hp=>
  simp only[live] at hl;cases ho:hget H nm with
  | cells l e=>exact hp (hI.objs nm _ (aX ho si)).1
  | _=>rw[ho] at hl;cases hl
theorem Hc {t:TypeId} {f fo sz:Nat} {ag:Bool} (h:Ae P t f=some (fo,sz,ag)):
  ∃fs fd,P.underlying t=some (.struct fs)/\fs[f]? =some fd/\fd.offset=fo/\jS P fd.type=some sz/\aggB P fd.type=some ag:=by
 unfold Ae at h;split at h
 ·rename_i fs hu;split at h
  ·rename_i fd hf;split at h
   ·rename_i s a hs ha;cases h;exact ⟨fs,fd,hu,hf,rfl,hs,ha⟩
   cases h
  cases h
 cases h
theorem sI {t:TypeId} {f fo sz b off:Nat} {ag:Bool} (h:Ae P t f=some (fo,sz,ag)) (h0:0<sz):(Instr.fieldAt t (.pointer (some ⟨b,off,none⟩)) f).run P w= .ok (.pointer (some ⟨b,off+fo,none⟩)) w:=by
 obtain ⟨fs,fd,hu,hf,rfl,hs,ha⟩:=Hc h;have:¬sz=0:=om;simp[Instr.fieldAt,run_underlying hu,hf,Instr.sureAddr,fieldPlace,jV hs,this,Addr.add_mid]
theorem aDx {E:Env} {t:TypeId} {f fo sz:Nat} {ag:Bool} {cs:List SV} {vs:List Value} {K:SV->Prop} (hf:Ae P t f=some (fo,sz,ag)) (hl:RelL E cs vs)
  (h:oP ag fo sz cs K):∃v s,(Instr.field t (.agg ⟨vs⟩) f).run P w= .ok v w/\K s/\Rel E s v:=by
 obtain ⟨fs,fd,hu,hf',rfl,hs,ha⟩:=Hc hf;cases ag with
 | true=>
  obtain ⟨hb,h⟩:=bA h;rw[bY] at h;refine ⟨_,_,?_,h,.agg _ _ ((hl.drop fd.offset).take sz)⟩;simp[Instr.field,run_underlying hu,hf',asAgg,part,wC ha,jV hs]
 | false=>
  obtain ⟨hb,h⟩:=bA h;rw[jR] at h;have hlt:fd.offset<cs.length:=by simpa using hb
  have hlt':fd.offset<vs.length:=by rw[<- hl.length];exact hlt
  refine ⟨_,_,?_,h,hl.get _ hlt⟩;simp[Instr.field,run_underlying hu,hf',asAgg,part,wC ha,hlt']
theorem aDy {E:Env} {t e:TypeId} {n:Nat} {kk:IntKind} {j:Int} {sz:Nat} {ag:Bool} {cs:List SV} {vs:List Value} {K:SV->Prop} (hu:P.underlying t=some (.array n e)) (ha:aggB P e=some ag) (hs:jS P e=some sz) (hb:0<=j/\j<n) (hl:RelL E cs vs)
  (h:oP ag (j.toNat*sz) sz cs K):∃v s,(Instr.index t (.agg ⟨vs⟩) (.int kk j)).run P w= .ok v w/\K s/\Rel E s v:=by
 cases ag with
 | true=>
  obtain ⟨hb',h⟩:=bA h;rw[bY] at h;refine ⟨_,_,?_,h,.agg _ _ ((hl.drop (j.toNat*sz)).take sz)⟩;simp[Instr.index,asIntOf,run_underlying hu,hb.1,hb.2,part,wC ha,jV hs]
 | false=>
  obtain ⟨hb',h⟩:=bA h;rw[jR] at h;have hlt:j.toNat*sz<cs.length:=by simpa using hb'
  have hlt':j.toNat*sz<vs.length:=by rw[<- hl.length];exact hlt
  refine ⟨_,_,?_,h,hl.get _ hlt⟩;simp[Instr.index,asIntOf,run_underlying hu,hb.1,hb.2,part,wC ha,jV hs,hlt']
theorem iL {t e:TypeId} (h:fZ P t=some e):P.underlying t=some (.slice e):=by
 unfold fZ at h;split at h
 ·rename_i e' hu;cases h;exact hu
 cases h
theorem qC {t e:TypeId} {sz b off n c:Nat} {k:IntKind} {i:Int} (he:fZ P t=some e) (hs:jS P e=some sz) (h:0<=i/\i<n):
  (Instr.indexAt t (.slice (some ⟨b,off,none⟩) n c) (.int k i)).run P w= .ok (.pointer (some ⟨b,off+i.toNat*sz,none⟩)) w:=by
 simp[Instr.indexAt,asIntOf,run_underlying (iL he),jV hs,h.1,h.2,Addr.add_mid]
theorem Rd (hI:Inv G H loc ver w) {t:TypeId} {x i:SV} {p q:Value} {K:SV->Prop} (h:Yf P t H x i K) (hx:Rel (envOf G H loc ver w) x p) (hi:Rel (envOf G H loc ver w) i q):
  ∃v s,(Instr.indexAt t p q).run P w= .ok v w/\K s/\Rel (envOf G H loc ver w) s v:=by
 unfold Yf at h;split at h
 ·rename_i n e nm off k j ha;obtain ⟨rfl,_⟩:=hi.int_inv;split at h
  ·rename_i sz hs;obtain ⟨hlv,h⟩:=bA h;obtain ⟨⟨h1,h2⟩,h3⟩:=h;have h3:=h3.use h1;have hu:P.underlying t=some (.array n e):=by
    unfold aMq at ha;split at ha
    ·rename_i hu;cases ha;exact hu
    cases ha
   cases hx with
   | ptr _ _ _ hn hp=>
    have hv0:ver nm=0:=by
     simp only[live] at hlv;split at hlv
     ·rename_i l e' ho;exact (hI.objs nm _ (aX ho si)).1
     cases hlv
    obtain ⟨b,hb,rfl⟩:=hp hv0;refine ⟨.pointer (some ⟨b,off+j.toNat*sz,none⟩),_,?_,h3,.ptr nm _ _ hn fun _=>⟨b,hb,rfl⟩⟩;simp[Instr.indexAt,asIntOf,run_underlying hu,Instr.sureAddr,go_sem,h1,h2,jV hs,Addr.add]
  cases h
 cases h
theorem Mw (hI:Inv G H loc ver w) {t:TypeId} {x i:SV} {p q:Value} {K:SV->Prop} (h:Qf P t H x i K) (hx:Rel (envOf G H loc ver w) x p) (hi:Rel (envOf G H loc ver w) i q):
  ∃v s,(Instr.indexAt t p q).run P w= .ok v w/\K s/\Rel (envOf G H loc ver w) s v:=by
 unfold Qf at h;split at h
 ·rename_i e k n he;obtain ⟨rfl,_⟩:=hi.int_inv;split at h
  ·rename_i sz hs;have hseq:∀(ty:Ty) (xs:List ty.T) (p:Value),Reads w (okN G H loc w) (.slice ty) xs [p]->sz=ty.size->(0<=n/\n<xs.length)->K (.elem ty xs n.toNat 0)->∃v s,(Instr.indexAt t p (.int k n)).run P w= .ok v w/\K s/\Rel (envOf G H loc ver w) s v:=by
    intro ty xs p hr hsz hb hk;obtain ⟨a,m,c,e1,hm,hmc,hmx,hall⟩:=hr;cases e1;have hm':m=xs.length:=hm;obtain ⟨b,off,rfl,hok,hel⟩:=hall om;obtain ⟨es,h1,h2,h3⟩:=hel n.toNat om;refine ⟨_,_,qC he hs ⟨hb.1,om⟩,hk,?_⟩;rw[hsz];have:=Rel.elem (E:=envOf G H loc ver w) ty xs n.toNat 0 b (off+n.toNat*ty.size) es om hok h2 h3;simpa using this
   split at h
   ·rename_i ty xs;obtain ⟨hb,h⟩:=bA h;cases hx with
    | seq _ _ _ hr=>exact hseq ty xs p hr (bK.1 hb) h.ok (h.go.use h.ok.1)
   ·rename_i es l;obtain ⟨hb,h⟩:=bA h;have hb:=bK.1 hb;subst hb;cases hx with
    | lit _ m b off _ vs hl hn hok hr=>
     rw[Qd] at h;obtain ⟨⟨h1,h2⟩,h3⟩:=h;have h2:n.toNat*sz<l.length:=by
      obtain ⟨j,rfl⟩:=bT h1;rw[aJ];have h2':((j*sz:Nat):Int)<0+(l.length:Int):=by simpa using h2
      omega
     have hlt:n<m:=by
      rw[hl.length,hn] at h2;have:n.toNat<m:=Nat.lt_of_mul_lt_mul_right h2;omega
     exact ⟨_,_,qC he hs ⟨h1,hlt⟩,h3,.lelem _ _ _ _ _ hl hok hr⟩
   ·split at h;case h_2=>cases h
    rename_i k' m it ho;obtain ⟨hb,h⟩:=bA h;have hb:=bK.1 hb;subst hb;obtain ⟨⟨h1,h2⟩,h3⟩:=h;have h3:=h3.use h1;cases hx with
    | sft _ _ hon hv=>
     obtain ⟨hl,_,hrow⟩:=Jy hI ho hv.1;have hv2:p=G.itr.sf.head:=hv.2;subst hv2;rcases hrow with h0 | ⟨g,cur,e',fz,e1,e2,_⟩
     ·omega
     have hrun:=qC (P:=P) (w:=w) (b:=g) (off:=0) (n:=G.itr.sf.len) (c:=G.itr.sf.cap) (k:=k) (i:=n) he hs ⟨h1,om⟩;refine ⟨.pointer (some ⟨g,0+n.toNat*1,none⟩),_,?_,h3,?_⟩
     ·simp only[Core.head,e1,jC];exact hrun
     exact .sft _ _ hon ⟨hv.1,g,e1,si⟩
   ·rename_i nm k';split at h
    ·rename_i j ty xs e' ho;obtain ⟨hb,hK⟩:=bA h;simp only[aE,bK] at hb;obtain ⟨rfl,hsz⟩:=hb;cases hx with
     | ref _ _ _ hn h0 hk hv=>
      have hO:=hI.objs nm _ (aX ho si);have hvj:ver nm=j:=hO.1;have:=hv hvj.symm;subst this;obtain ⟨_,_,hlen,hmax,vs,hown,hel⟩:=hO;obtain ⟨⟨h1,h2⟩,h3⟩:=hK;have h3:=h3.use h1;have hlen':(loc nm).len=xs.length:=hlen;rcases dJ hown with ⟨_,_,e2,_⟩ | ⟨g,cur,e1,e2,_⟩
      ·omega
      have hrun:=qC (P:=P) (w:=w) (b:=g) (off:=0) (n:=(loc nm).len) (c:=(loc nm).cap) (k:=k) (i:=n) he hs ⟨h1,om⟩;refine ⟨.pointer (some ⟨g,0+n.toNat*sz,none⟩),_,?_,h3,?_⟩
      ·show (Instr.indexAt t (Core.head (loc nm).toCore) _).run P w= _;simp only[Core.head,e1,jC];exact hrun
      refine .vptr nm j _ sz 0 _ hn h0 hk fun _=>⟨?_,g,0,e1,si⟩;show n.toNat<(loc nm).len;omega
    ·rename_i j ty xs ho;obtain ⟨hb,hK⟩:=bA h;simp only[aE,bK] at hb;obtain ⟨rfl,hsz⟩:=hb;cases hx with
     | ref _ _ _ hn h0 hk hv=>
      have hO:=hI.objs nm _ (aX ho si);have hvj:ver nm=j:=hO.1;have:=hv hvj.symm;subst this;exact hseq ty xs _ hO.2.2 hsz hK.ok (hK.go.use hK.ok.1)
    cases h
   ·rename_i nm k' a b z;split at h
    ·rename_i j ty xs e' ho;obtain ⟨hb,hK⟩:=bA h;simp only[aE,bK] at hb;obtain ⟨rfl,hsz,rfl⟩:=hb;cases hx with
     | part _ _ _ _ _ _ hn h0 hk hv=>
      have hO:=hI.objs nm _ (aX ho si);have hvj:ver nm=j:=hO.1;obtain ⟨hab,hbl,hv⟩:=hv hvj.symm;subst hv;obtain ⟨_,_,hlen,hmax,vs,hown,hel⟩:=hO;obtain ⟨⟨h1,h2⟩,h3⟩:=hK;have h3:=h3.use h1;have hbl':b<=(loc nm).len:=hbl;rcases dJ hown with ⟨_,_,e2,_⟩ | ⟨g,cur,e1,e2,_,hcp,_⟩
      ·omega
      have hc:¬(loc nm).cap=a:=om;have hrun:=qC (P:=P) (w:=w) (b:=g) (off:=0+a*z) (n:=b-a) (c:=(loc nm).cap-a) (k:=k) (i:=n) he hs ⟨h1,h2⟩;refine ⟨.pointer (some ⟨g,0+a*z+n.toNat*z,none⟩),_,?_,h3,?_⟩
      ·show (Instr.indexAt t (.slice (if (loc nm).cap=a then (loc nm).blk.map (fun p=>(⟨p.1,p.2,none⟩:Addr)) else ((loc nm).blk.map fun p=>(⟨p.1,p.2,none⟩:Addr)).map (·.add (a*z))) (b-a) ((loc nm).cap-a)) _).run P w= _;rw[aC hc,e1];simp only[jC];show (Instr.indexAt t (.slice (some (Addr.add ⟨g,0,none⟩ (a*z))) (b-a) ((loc nm).cap-a)) _).run P w= _;rw[show Addr.add ⟨g,0,none⟩ (a*z)=(⟨g,0+a*z,none⟩:Addr) by simp only[Addr.add];split<;>simp_all];exact hrun
      refine .vptr nm j _ z 0 _ hn h0 hk fun _=>⟨?_,g,0,e1,?_⟩
      ·show a+n.toNat<(loc nm).len;omega
      rw[cL,eJ,eJ,Nat.add_zero]
    cases h
   cases h
  cases h
 cases h
end
end Go.Eng
end
section
namespace Go.Eng
open Go.RowKit
theorem Ty.size_pos (t:Ty):0<t.size:=by
 induction t with
 | pair a b iha ihb=>simp[Ty.size];omega
 | _=>simp[Ty.size]
theorem kG (w:World) (o:Obj):(w.alloc o).heap[w.heap.size]? =some o:=by
 show (w.heap.push o)[w.heap.size]? =some o;simp
theorem Ka {α:Type} (a b:List α) (n k:Nat) (h:a.length=n):(a++b).drop (n+k)=b.drop k:=by
 subst h;apply fY;intro i;rw[bD,bD,cS om];congr 1
 omega
section
variable {P:Program} {G:Ctx} {H:List HO} {loc:Nat->Loc} {ver:Nat->Nat} {w:World}
theorem zC (hI:Inv G H loc ver w) {z:List SV} {vs:List Value} (hz:RelL (envOf G H loc ver w) z vs) (t:TypeId) {K:SV->List HO->Prop} (h:xA H (.cells z t) K):
  Res G (envOf G H loc ver w) K (.pointer (some ⟨w.heap.size,0,none⟩)) (w.alloc (.cells ⟨vs⟩ t)):=by
 simp only[xA,bY] at h;have hf:=hI.fresh (w':=w.alloc (.cells ⟨vs⟩ t)) (.cells z t) (mkL (some (w.heap.size,0)) (0) (0)) 0 si rfl rfl rfl (fun b hb=>Below.heap_alloc w _ b hb) (by intro b hb;simp[Owns] at hb;omega)
  (fun hx=>⟨rfl,w.heap.size,vs,rfl,kG w _,hz.ext hx⟩)
 refine ⟨_,_,_,_,h,hf.1,?_,hf.2⟩;refine .ptr _ _ _ (by exact lD rfl) fun _=>⟨w.heap.size,?_,rfl⟩;simp[envOf,aW]
theorem Am {t:TypeId} {v:Value} (h:(zeroValue t).run P w= .ok v w):(Instr.alloc t true (.tuple #[])).run P w= .ok (.pointer (some ⟨w.heap.size,0,none⟩)) (w.alloc (.cells v.cells t)):=by
 simp[Instr.alloc,h,newVar,newRow]
theorem aCa {t:TypeId} {v:Value}:(Instr.box t v).run P w= .ok (.pointer (some ⟨w.heap.size,0,none⟩)) (w.alloc (.cells v.cells t)):=by
 simp[Instr.box,newVar,newRow]
inductive RelP (E:Env):List (Nat × SV)->List (Nat × Value)->Prop
 | nil:RelP E [] []
 | cons (i:Nat) (s:SV) (v:Value) (l:List (Nat × SV)) (vs:List (Nat × Value)) (h:RelL E (eH s) v.cells.toList) (h':Rel E s v) (hl:RelP E l vs):RelP E ((i,s)::l) ((i,v)::vs)
theorem Nw (hI:Inv G H loc ver w) {N:Nat} {l:List (Nat × SV)} {a:Act} (hT:TRel (envOf G H loc ver w) N l a) (ps:List (Nat × Operand)) (h:vD H (ps.map fun p=>(p.1,ev l p.2))=true):
  RelP (envOf G H loc ver w) (ps.map fun p=>(p.1,ev l p.2)) (ps.map fun p=>(p.1,a.eval p.2)):=by
 induction ps with
 | nil=>exact .nil
 | cons p r ih=>
  simp only[mW,vD,aE] at h;exact .cons _ _ _ _ _ (tR hI (nI hT p.2) h.1) (nI hT p.2) (ih h.2)
theorem Us (r:List Value):∀(cells:Array Value) (off k:Nat),(r.zipIdx k).foldl (fun cs (x:Value × Nat)=>cs.setIfInBounds (off+x.2) x.1) cells= ⟨kC cells.toList (off+k) r⟩:=by
 induction r with
 | nil=>intro cells off k;rfl
 | cons v r ih=>
  intro cells off k;simp only[List.zipIdx_cons,pK];rw[ih];simp[kC,jN]
theorem Nx (cells v:Array Value) (off:Nat):v.zipIdx.foldl (fun cs (x:Value × Nat)=>cs.setIfInBounds (off+x.2) x.1) cells= ⟨kC cells.toList off v.toList⟩:=by
 rw[<- Array.foldl_toList,Array.toList_zipIdx,Us];rfl
theorem Cj {E:Env} {pl:List (Nat × Nat)} {place:Nat->Option (Nat × Nat)} (hpl:∀i p,pl[i]? =some p->place i=some p):∀ {parts:List (Nat × SV)} {vs:List (Nat × Value)},RelP E parts vs->∀ {zc l:List SV} {cells:Array Value},Fe pl zc parts=some l->RelL E zc cells.toList->
  ∃cells',Instr.fill place cells vs=some cells'/\RelL E l cells'.toList
 | _,_,.nil,zc,l,cells,h,hz=>by simp[Fe] at h;subst h;exact ⟨cells,rfl,hz⟩
 | _,_,.cons i s v r vs hc _ hl,zc,l,cells,h,hz=>by
  simp only[Fe] at h;cases hp:pl[i]? with
  | none=>rw[hp] at h;cases h
  | some p=>
   obtain ⟨off,sz⟩:=p;rw[hp] at h;simp only at h;cases hb:(Nat.beq (eH s).length sz&&Nat.ble (off+sz) zc.length) with
   | false=>rw[hb] at h;cases h
   | true=>
    rw[hb] at h;simp only[bR] at h;simp only[aE,bK,yF] at hb;have h1:=hc.length;have h2:=hz.length;simp at h1 h2;obtain ⟨cells',h3,h4⟩:=Cj hpl (cells:=⟨kC cells.toList off v.cells.toList⟩) hl h (hz.setCells hc off);refine ⟨cells',?_,h4⟩;simp only[Instr.fill,hpl _ _ hp];rw[aC (by simp;omega),Nx];exact h3
theorem Ut (fs:List Field):∀ {pl:List (Nat × Nat)},Qg P fs=some pl->(fs.mapM fun f=>(Prod.mk f.offset <$>sizeOf f.type:Sem (Nat × Nat))).run P w= .ok pl w:=by
 induction fs with
 | nil=>intro pl h;cases h;simp[List.mapM_nil]
 | cons f r ih=>
  intro pl h;simp only[Qg] at h;split at h
  ·rename_i sz l hs hl;cases h;rw[uX];simp[jV hs,ih hl]
  cases h
theorem Mx {E:Env} (hw:E.w=w) {t:TypeId} {parts:List (Nat × SV)} {vs:List (Nat × Value)} {K:SV->Prop} (h:Qh P t parts K) (hp:RelP E parts vs):
  ∃v s,(Instr.build t vs.toArray).run P w= .ok v w/\K s/\Rel E s v:=by
 unfold Qh at h;split at h
 ·rename_i fs z hu hz;split at h
  ·rename_i pl hpl;split at h
   ·rename_i l hl;rw[lU] at h;obtain ⟨zv,hzv,rfl⟩:=uG hz w;obtain ⟨cells',h1,h2⟩:=Cj (place:=fun i=>pl[i]?) (fun _ _ h=>h) (cells:=zv.cells) hp hl (uH E _);refine ⟨_,_,?_,h,.agg _ _ h2⟩;have hm:(fs.mapM fun f=>(Prod.mk f.offset <$>sizeOf f.type:Sem (Nat × Nat))).run P w= .ok ⟨pl⟩ w:=by
     rw[Array.mapM_eq_mapM_toList];simp only[Sem.run_map,Ut (P:=P) (w:=w) fs.toList hpl,Result.andThen_ok]
    simp[Instr.build,hzv,run_underlying hu];rw[hm];simp[h1]
   cases h
  cases h
 cases h
theorem Hd (sz:Nat):∀(n off i:Nat) (p),(Af sz n off)[i]? =some p->p=(off+i*sz,sz)
 | 0,_,_,_,h=>by simp[Af] at h
 | n+1,off,0,p,h=>by simp[Af] at h;simp[<- h]
 | n+1,off,i+1,p,h=>by
  have:=Hd sz n (off+sz) i p (by simpa [Af] using h);rw[this];simp[cL];omega
theorem Re {E:Env} (hw:E.w=w) {t:TypeId} {parts:List (Nat × SV)} {vs:List (Nat × Value)} {K:SV->Prop} (h:Yg P t parts K) (hp:RelP E parts vs):
  ∃v s,(Instr.build t vs.toArray).run P w= .ok v w/\K s/\Rel E s v:=by
 unfold Yg at h;split at h
 ·rename_i n e z hu hz;split at h
  ·rename_i sz hsz;split at h
   ·rename_i l hl;rw[lU] at h;obtain ⟨zv,hzv,rfl⟩:=uG hz w;obtain ⟨cells',h1,h2⟩:=Cj (place:=fun i=>some (i*sz,sz)) (fun i p h=>by have:=Hd sz n 0 i p h;rw[this];simp) (cells:=zv.cells) hp hl (uH E _);refine ⟨_,_,?_,h,.agg _ _ h2⟩;simp[Instr.build,hzv,run_underlying hu,jV hsz,h1]
   cases h
  cases h
 cases h
theorem Uu {size:Nat}:∀(vs:List (Nat × Value)) (k:Nat) (cells:Array Value),(∀j p,vs[j]? =some p->p.1=k+j/\p.2.cells.toList.length=size)->(k+vs.length)*size<=cells.size->
  Instr.fill (fun i=>some (i*size,size)) cells vs=some ⟨cells.toList.take (k*size)++vs.flatMap (fun p=>p.2.cells.toList)++cells.toList.drop ((k+vs.length)*size)⟩
 | [],k,cells,_,_=>by simp[Instr.fill]
 | (i,v)::r,k,cells,h,hs=>by
  obtain ⟨h1,h2⟩:=h 0 (i,v) rfl;have h1':i=k:=by simpa using h1
  subst h1';have h2':v.cells.size=size:=by simpa using h2
  have hmul:(i+(r.length+1))*size=i*size+size+r.length*size:=by simp[cL];omega
  have hs':i*size+size+r.length*size<=cells.size:=by simp only[bS] at hs;omega
  have hsv:kC cells.toList (i*size) v.cells.toList=cells.toList.take (i*size)++v.cells.toList++cells.toList.drop (i*size+v.cells.toList.length):=Uq _ _ _ (by simp;omega);simp only[Instr.fill]
  rw[aC (by simp;omega),Nx,Uu r (i+1) _ (fun j p hj=>by have:=h (j+1) p hj;exact ⟨om,this.2⟩) (by
   show _<=(kC cells.toList (i*size) v.cells.toList).length;rw[qN];have:(i+1+r.length)*size=i*size+size+r.length*size:=by simp[cL]
   simp;omega)]
  congr 2
  have e1:(i+1)*size=i*size+size:=by rw[cL,iC]
  have e2:(i+1+r.length)*size=i*size+size+r.length*size:=by simp[cL]
  simp only[iW,bS];rw[hsv,hmul,e1,e2];simp only[jE] at*;have l1:(cells.toList.take (i*size)).length=i*size:=by simp;omega
  have l2:v.cells.toList.length=size:=by simp[h2']
  have t1:(cells.toList.take (i*size)++v.cells.toList++cells.toList.drop (i*size+v.cells.size)).take (i*size+size)=cells.toList.take (i*size)++v.cells.toList:=sX (by simp only[aS,l1,l2]);have t2:(cells.toList.take (i*size)++v.cells.toList++cells.toList.drop (i*size+v.cells.size)).drop (i*size+size+r.length*size)=cells.toList.drop (i*size+size+r.length*size):=by
   rw[Ka _ _ (i*size+size) _ (by simp only[aS,l1,l2]),gE,h2']
  rw[t1,t2];simp[cC]
end
end Go.Eng
end
section
namespace Go.Eng
open Go.RowKit
section
variable {P:Program} {G:Ctx} {H:List HO} {loc:Nat->Loc} {ver:Nat->Nat} {w:World}
theorem Yv (hI:Inv G H loc ver w) {w':World} (h:w.heap.size<w'.heap.size):okN G H loc w' w.heap.size:=by
 refine ⟨.inr (.inr hI.size),h,?_⟩;rintro ⟨nm,o,ho,hb⟩;have:=(hI.objs nm o ho).block hb;simp[envOf] at this
theorem aG1 {e:TypeId} {size n:Nat} {v:Value} {vs:List Value} {base:Nat} (h:w.ownsR base e size v n vs):∃L:Loc,L.head=v/\L.len=n:=by
 obtain ⟨_,⟨h1,h2⟩ | ⟨g,cap,cur,h1,_⟩⟩:=h
 ·exact ⟨mkL none 0 0,by rw[h1];rfl,h2.symm⟩
 exact ⟨mkL (some (g,0)) n cap,by rw[h1];rfl,rfl⟩
theorem Dm {E:Env} {t:Ty}:∀ {parts:List (Nat × SV)} {vs:List (Nat × Value)},RelP E parts vs->∀ {n:Nat} {l:List t.T},Ji t parts n=some l->
  l.length=vs.length/\(∀j p,vs[j]? =some p->p.1=n+j/\p.2.cells.toList.length=t.size)/\(vs.flatMap fun p=>p.2.cells.toList).length=l.length*t.size/\
  ∀i,i<l.length->Reads E.w E.ok t (l.getD i t.dflt) (((vs.flatMap fun p=>p.2.cells.toList).drop (i*t.size)).take t.size)
 | _,_,.nil,n,l,h=>by
  simp only[Ji] at h;cases h;exact ⟨rfl,si,si,si⟩
 | _,_,.cons i s v r vs hc _ hl,n,l,h=>by
  simp only[Ji] at h;cases hb:(Nat.beq i n&&Nat.beq (eH s).length t.size&&tB t (eH s)) with
  | false=>rw[hb] at h;cases h
  | true=>
   rw[hb] at h;simp only[bR] at h;split at h
   ·rename_i x l' hd hl';cases h;simp only[aE,bK] at hb;obtain ⟨⟨rfl,hlen⟩,hk⟩:=hb;obtain ⟨h1,h2,h3,h4⟩:=Dm hl hl';have hcl:=hc.length;have hvl:v.cells.toList.length=t.size:=om;refine ⟨by simp[h1],?_,?_,?_⟩
    ·intro j p hj;cases j with
     | zero=>simp at hj;subst hj;exact ⟨rfl,hvl⟩
     | succ j=>simp at hj;have:=h2 j p hj;exact ⟨om,this.2⟩
    ·simp only[iW,aS,h3,hvl,bS,cL];omega
    intro j hj;simp only[iW];cases j with
    | zero=>
     rw[yG,eX,sX hvl];exact Ak hc hd hk
    | succ j=>
     have:(j+1)*t.size=t.size+j*t.size:=by rw[cL];omega
     rw[this,Ka _ _ _ _ hvl];simpa using h4 j (by simpa using hj)
   cases h
theorem Kb {E:Env}:∀ {parts:List (Nat × SV)} {vs:List (Nat × Value)},RelP E parts vs->∀ {n:Nat} {l:List SV},Jj parts n=some l->
  l.length=vs.length/\(∀j p,vs[j]? =some p->p.1=n+j/\p.2.cells.toList.length=1)/\((∀s∈l,∀c,s≠ .agg c)->RelL E l (vs.flatMap fun p=>p.2.cells.toList))
 | _,_,.nil,n,l,h=>by
  simp only[Jj] at h;cases h;exact ⟨rfl,si,fun _=>.nil⟩
 | _,_,.cons i s v r vs hc hr hl,n,l,h=>by
  simp only[Jj] at h;cases hb:(Nat.beq i n&&Nat.beq (eH s).length 1) with
  | false=>rw[hb] at h;cases h
  | true=>
   rw[hb] at h;simp only[bR] at h;split at h
   ·rename_i l' hl';cases h;simp only[aE,bK] at hb;obtain ⟨rfl,hlen⟩:=hb;obtain ⟨h1,h2,h3⟩:=Kb hl hl';have hcl:=hc.length;refine ⟨by simp[h1],?_,?_⟩
    ·intro j p hj;cases j with
     | zero=>
      simp at hj;subst hj;have hvl:v.cells.toList.length=1:=om;exact ⟨rfl,hvl⟩
     | succ j=>simp at hj;have:=h2 j p hj;exact ⟨om,this.2⟩
    intro hna;simp only[iW];have e:eH s= [s]:=by
     cases s<;>first | rfl | exact absurd rfl (hna _ (bW ..) _)
    rw[e] at hc;exact RelL.append hc (h3 fun s' hs'=>hna s' (bP _ hs'))
   cases h
theorem Kc {E:Env} {sz:Nat}:∀ {parts:List (Nat × SV)} {vs:List (Nat × Value)},RelP E parts vs->∀ {n:Nat} {l:List SV},Jl sz parts n=some l->
  l.length=vs.length*sz/\(∀j p,vs[j]? =some p->p.1=n+j/\p.2.cells.toList.length=sz)/\RelL E l (vs.flatMap fun p=>p.2.cells.toList)
 | _,_,.nil,n,l,h=>by
  simp only[Jl] at h;cases h;exact ⟨si,si,.nil⟩
 | _,_,.cons i s v r vs hc hr hl,n,l,h=>by
  simp only[Jl] at h;split at h;case h_2=>cases h
  rename_i cl;cases hb:(Nat.beq i n&&Nat.beq cl.length sz) with
  | false=>rw[hb] at h;cases h
  | true=>
   rw[hb] at h;simp only[bR] at h;split at h
   ·rename_i l' hl';cases h;simp only[aE,bK] at hb;obtain ⟨rfl,hlen⟩:=hb;obtain ⟨h1,h2,h3⟩:=Kc hl hl';have hc':RelL E cl v.cells.toList:=hc;have hcl:=hc'.length;refine ⟨by rw[aS,h1,hlen,bS,cL];omega,?_,?_⟩
    ·intro j p hj;cases j with
     | zero=>
      simp at hj;subst hj;have hvl:v.cells.toList.length=sz:=om;exact ⟨rfl,hvl⟩
     | succ j=>simp at hj;have:=h2 j p hj;exact ⟨om,this.2⟩
    simp only[iW];exact RelL.append hc' h3
   cases h
theorem Hy {t e:TypeId} {sz:Nat} (hu:P.underlying t=some (.slice e)) (hs:jS P e=some sz):
  (Instr.buildSlice t 0 #[]).run P w= .ok (.slice (some ⟨w.heap.size,0,none⟩) 0 0) (w.alloc (.cells #[] e)):=by
 simp[Instr.buildSlice,run_underlying hu,jV hs,Instr.fill,newRow,Array.range_zero']
theorem He:∀ {l:List SV},Yh l=true->∀s∈l,∀c,s≠ .agg c
 | [],_,s,hs,_,_=>by simp at hs
 | x::r,h,s,hs,c,e=>by
  subst e;rcases bH.1 hs with h1 | h1
  ·subst h1;cases h
  refine He (l:=r) ?_ _ h1 c rfl;cases x<;>first | exact h | cases h
theorem aJr {E:Env} {t:Ty} {l:List t.T} {b:Nat} {cs:List Value} {n:Nat} (hok:E.ok b) (hr:E.w.rangeAt b 0 cs) (hn:n=l.length) (hm:n<=maxL) (h:∀i,i<l.length->Reads E.w E.ok t (l.getD i t.dflt) ((cs.drop (i*t.size)).take t.size)):
  Rel E (.seq t l) (.slice (some ⟨b,0,none⟩) n n):=by
 refine .seq _ _ _ ⟨_,n,n,rfl,hn,aN _,hm,fun _=>⟨b,0,rfl,hok,fun i hi=>⟨_,(h i om).length,?_,h i om⟩⟩⟩;intro j v hj;rw[aU] at hj;split at hj
 ·rw[bD] at hj;have:=hr (i*t.size+j) v hj;simpa [jN] using this
 cases hj
theorem wE (hI:Inv G H loc ver w) {t:TypeId} {len:Nat} {parts:List (Nat × SV)} {vs:List (Nat × Value)} {K:SV->List HO->Prop} (h:tC P t len parts H K) (hp:RelP (envOf G H loc ver w) parts vs):
  ∃v w',(Instr.buildSlice t len vs.toArray).run P w= .ok v w'/\Res G (envOf G H loc ver w) K v w':=by
 unfold tC at h;have h':=bA h;clear h;obtain ⟨hb0,h⟩:=h';simp only[aE,bK,yF] at hb0;split at h;case h_2=>cases h
 rename_i e he;have hu:=iL he;split at h;case h_2=>cases h
 rename_i sz hs;have h':=bA h;clear h;obtain ⟨hb1,h⟩:=h';simp only[aE,yF] at hb1;obtain ⟨ie,hie,hies⟩:=Ci hs;have hzero:∃z,ie.zero=some z:=by
  have:=hb1.2;simp only[aGe,hie] at this;exact Option.isSome_iff_exists.1 this
 have hplen:∀ {ps:List (Nat × SV)} {vs:List (Nat × Value)},RelP (envOf G H loc ver w) ps vs->ps.length=vs.length:=by
  intro ps vs h
  induction h with
  | nil=>rfl
  | cons i s v l vs _ _ _ ih=>simp[ih]
 have hpl:=hplen hp
 -- what the model lays, where there is an element
 have main:∀(hvs:∀j p,vs[j]? =some p->p.1=0+j/\p.2.cells.toList.length=sz),0<len->∀(hz:∃z,ie.zero=some z),
   (Instr.buildSlice t len vs.toArray).run P w= .ok (.slice (some ⟨w.heap.size,0,none⟩) len len) (w.alloc (.cells ⟨vs.flatMap fun p=>p.2.cells.toList⟩ e)):=by
  rintro hvs h0 ⟨z,hz⟩;have hsz0:0<sz:=by simpa using hb1.1.1
  have hpos:0<len*ie.size:=vK h0 om;have hle:len*ie.size<=1000*1000:=jY hb0.2 (by have:=hb1.1.2;omega);have hvl:vs.length=len:=om;refine run_buildSlice w t e len vs.toArray _ ie z hu hie hz om om ?_;have hfl:(vs.flatMap fun p=>p.2.cells.toList).length=len*ie.size:=by
   have:∀(l:List (Nat × Value)),(∀p∈l,p.2.cells.toList.length=sz)->(l.flatMap fun p=>p.2.cells.toList).length=l.length*sz:=by
    intro l hl
    induction l with
    | nil=>simp
    | cons p r ih=>
     simp only[iW,aS,hl p (bW ..),ih fun q hq=>hl q (bP _ hq),bS,cL];omega
   rw[this vs ?_,hvl,hies];intro p hp;obtain ⟨j,hj,rfl⟩:=dD hp;exact (hvs j _ (aM hj)).2
  have:=Uu (size:=sz) vs 0 ((Array.range (len*ie.size)).map (z.cells[· %z.cells.size]!)) hvs (by simp[hvl,hies]);rw[<- hies] at this;rw[show vs.toArray.toList=vs from by simp,this];simp[hvl]
 split at h
 ·rename_i ty hty;obtain ⟨hb2',h'⟩:=bA h;have hb2:=bK.1 hb2';clear h hb2'
  revert h'
  intro h;split at h
  ·cases hp;rw[bY] at h;have h0:len=0:=by simpa using hb0.1.symm
   subst h0;refine ⟨_,_,Hy hu hs,?_⟩;have hf:=hI.fresh (w':=w.alloc (.cells #[] e)) (.vec 1 ty [] e) (mkL (some (w.heap.size,0)) (0) (0)) 1 si rfl rfl rfl (fun b hb=>Below.heap_alloc w _ b hb) (by intro b hb;simp[Owns] at hb;omega)
    (fun hx=>⟨rfl,Nat.one_pos,rfl,aK _,[],⟨si,.inr ⟨w.heap.size,0, #[],rfl,aK _,kG w _,aN _,aK _,si,si⟩⟩,fun i hi=>absurd hi (bV _)⟩)
   refine ⟨_,_,_,_,h,hf.1,?_,hf.2⟩;refine .ref _ _ _ (by exact lD rfl) Nat.one_pos (by simp[envOf,aW]) fun _=>?_;simp[envOf,aW,Core.head]
  rename_i hne;split at h;case h_2=>cases h
  rename_i l hl;rw[bY] at h;obtain ⟨h1,h2,h3,h4⟩:=Dm hp hl;have h0:0<len:=by
   cases parts with
   | nil=>exact (hne rfl).elim
   | cons p r=>rw[<- hb0.1];simp
  rcases h.or with h | h
  ·refine ⟨_,_,main (by rw[hb2];exact h2) h0 hzero,?_⟩;have hg:=hI.grow (w':=w.alloc (.cells ⟨vs.flatMap fun p=>p.2.cells.toList⟩ e)) ((Below.refl _ _).alloc (aN _) _);refine ⟨_,_,_,_,h,hg.1,?_,hg.2⟩;refine aJr (cs:=vs.flatMap fun p=>p.2.cells.toList) (Yv hI si) ?_ om (bL hb0.2 (by simp[maxL])) fun i hi=>(h4 i hi).mono hg.2.cell hg.2.ok;intro j v hj;simp[envOf,hj]
  rw[bY] at h;have hfl:(vs.flatMap fun p=>p.2.cells.toList).length=len*ty.size:=by
   have:∀(l:List (Nat × Value)),(∀p∈l,p.2.cells.toList.length=ty.size)->(l.flatMap fun p=>p.2.cells.toList).length=l.length*ty.size:=by
    intro l hl
    induction l with
    | nil=>simp
    | cons p r ih=>
     simp only[iW,aS,hl p (bW ..),ih fun q hq=>hl q (bP _ hq),bS,cL];omega
   rw[this vs ?_]
   ·congr 1;omega
   intro p hp;obtain ⟨j,hj,rfl⟩:=dD hp;exact (h2 j _ (aM hj)).2
  have hll:List.length (α:=ty.T) l=len:=om;refine ⟨_,_,main (by rw[hb2];exact h2) h0 hzero,?_⟩;have hf:=hI.fresh (w':=w.alloc (.cells ⟨vs.flatMap fun p=>p.2.cells.toList⟩ e)) (.vec 1 ty l e) (mkL (some (w.heap.size,0)) len len) 1 si rfl rfl rfl (fun b hb=>Below.heap_alloc w _ b hb) (by intro b hb;simp[Owns] at hb;omega)
   (fun hx=>⟨rfl,Nat.one_pos,hll.symm,by show len<=140737488355328;omega,vs.flatMap (fun p=>p.2.cells.toList),⟨hfl,.inr ⟨w.heap.size,len,_,rfl,aK _,kG w _,aN _,by simp[maxLen];omega,qY (Eq.symm (by simpa using hfl)),by rw[mD (by simpa using qY hfl)]⟩⟩,fun i hi=>(h4 i (by have hi':i<len:=hi;omega)).mono hx.cell hx.ok⟩)
  refine ⟨_,_,_,_,h,hf.1,?_,hf.2⟩;refine .ref _ _ _ (by exact lD rfl) Nat.one_pos (by simp[envOf,aW]) fun _=>?_;simp[envOf,aW,Core.head]
 rename_i hty;obtain ⟨hb2,h⟩:=bA h;have hlen0:0<len:=by simpa using hb2
 cases hs1:Nat.beq sz 1 with
 | true=>
  rw[hs1] at h;simp only[bR] at h;have hs1:=bK.1 hs1;split at h;case h_2=>cases h
  rename_i l hl;obtain ⟨hna,h⟩:=bA h;rw[lU] at h;obtain ⟨h1,h2,h3⟩:=Kb hp hl;have hrel:=h3 (He hna);refine ⟨_,_,main (by rw[hs1];exact h2) hlen0 hzero,?_⟩;have hg:=hI.grow (w':=w.alloc (.cells ⟨vs.flatMap fun p=>p.2.cells.toList⟩ e)) ((Below.refl _ _).alloc (aN _) _);refine ⟨_,_,_,_,h,hg.1,?_,hg.2⟩;refine .lit 1 len _ 0 l _ (hrel.ext hg.2) ?_ (Yv hI si) ?_
  ·rw[<- hrel.length];omega
  intro j v hj;simp[envOf,hj]
 | false=>
  rw[hs1] at h;simp only[cD] at h;split at h;case h_2=>cases h
  rename_i l hl;rw[lU,Ff] at h;obtain ⟨h1,h2,hrel⟩:=Kc hp hl;refine ⟨_,_,main h2 hlen0 hzero,?_⟩;have hg:=hI.grow (w':=w.alloc (.cells ⟨vs.flatMap fun p=>p.2.cells.toList⟩ e)) ((Below.refl _ _).alloc (aN _) _);refine ⟨_,_,_,_,h,hg.1,?_,hg.2⟩;refine .lit sz len _ 0 l _ (hrel.ext hg.2) ?_ (Yv hI si) ?_
  ·rw[<- hrel.length,h1,<- hpl,hb0.1]
  intro j v hj;simp[envOf,hj]
end
end Go.Eng
end
