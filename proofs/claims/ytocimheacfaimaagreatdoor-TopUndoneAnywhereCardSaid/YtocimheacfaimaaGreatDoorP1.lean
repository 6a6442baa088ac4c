/-
  Part 1: a symbolic executor over the model, contracts of functions and plain laws.
-/
import Derived.CallsIn
import Derived.DeepKeys3
import Derived.Deep.MidRow
import Derived.Laws.Append
import Derived.Below
import Derived.Laws.AppendOwn
import Derived.RangeFuncOwn
import Derived.Laws.CopyRow
import Derived.RangeFuncBound
import Derived.IntWalk
import Derived.Laws.Small
import Derived.Laws.MakeOwn
import Derived.Great.BuildSlice
import Derived.Laws.OwnMore
set_option linter.unusedVariables false
set_option linter.unusedSimpArgs false
set_option maxRecDepth 10000
set_option maxHeartbeats 80000000
open List (length getD)
abbrev Bx:=List UInt8
theorem om {p:Prop}(h:p:=by omega):p:=h
theorem de {p:Prop}(h:p:=by decide):p:=h
theorem si {p:Prop}(h:p:=by simp):p:=h
theorem kr {p:Prop}(h:p:=by kernel_rfl):p:=h
noncomputable abbrev Cp {p:Prop}:Decidable p:=Classical.propDecidable p
abbrev aE:=@if_pos
abbrev aA:=@And.intro
abbrev aD:=@if_neg
abbrev cF:=@List.length_cons
abbrev dF:=@Nat.eq_zero_or_pos
abbrev eK:=@Nat.mul_le_mul
abbrev aI:=@Nat.le_refl
abbrev bI:=@Nat.add_mul
abbrev fI:=@Nat.le_of_ble_eq_true
abbrev bA:=@Nat.le_trans
abbrev cM:=@cond_false
abbrev bP:=@cond_true
abbrev Gb:=@dif_neg
abbrev aG:=@Bool.and_eq_true
abbrev dA:=@Bool.or_eq_true
abbrev nA:=@Bool.not_eq_true'
abbrev bY:=@List.mem_cons
abbrev pX:=@Nat.mul_one
abbrev kH:=@List.drop_eq_getElem_cons
abbrev aB:=@List.getD_eq_getElem?_getD
abbrev aO:=@List.length_append
abbrev aF:=@Nat.zero_le
abbrev vN:=@Array.size_append
abbrev gY:=@List.size_toArray
abbrev bW:=@List.append_assoc
abbrev cK:=@List.eq_nil_of_length_eq_zero
abbrev eS:=@Nat.zero_add
abbrev jI:=@List.nil_append
abbrev fJ:=@Array.ext'
abbrev aW:=@List.length_take
abbrev bT:=@List.length_drop
abbrev jM:=@Array.length_toList
abbrev aL:=@List.getElem?_take
abbrev fM:=@of_decide_eq_true
abbrev iP:=@Nat.succ_pos
abbrev fY:=@List.getElem?_set
abbrev fE:=@List.length_set
abbrev cI:=@List.take_succ_eq_append_getElem
abbrev iQ:=@Nat.lt_irrefl
abbrev eT:=@List.mem_append
abbrev aH:=@Array.getElem?_eq_some_iff
abbrev bE:=@Nat.lt_of_lt_of_le
abbrev aR:=@congrArg
abbrev aK:=@List.getElem?_eq_some_iff
abbrev aS:=@Classical.byContradiction
abbrev cO:=@List.getElem?_eq_none
abbrev bN:=@List.getElem?_append_left
abbrev cN:=@List.getElem?_append_right
abbrev dB:=@Nat.min_eq_left
abbrev aX:=@List.getElem?_drop
abbrev aN:=@Nat.mul_le_mul_right
abbrev cX:=@Nat.one_mul
abbrev dW:=@List.drop_drop
abbrev nU:=@List.drop_take
abbrev fP:=@List.take_take
abbrev eL:=@List.ext_getElem?
abbrev fV:=@List.getElem_of_mem
abbrev gP:=@Nat.mod_lt
abbrev dY:=@Nat.mul_comm
abbrev kT:=@List.mem_of_getElem?
abbrev aY:=@List.getElem?_eq_getElem
abbrev eA:=@Nat.le_mul_of_pos_right
abbrev jP:=@Nat.sub_zero
abbrev fT:=@Nat.mod_eq_of_lt
abbrev dZ:=@List.length_replicate
abbrev fO:=@List.getElem?_replicate
abbrev bQ:=@Array.getD_eq_getD_getElem?
abbrev cS:=@Array.getElem?_setIfInBounds
abbrev Ay:=@Int.pow_pos
abbrev eM:=@Int.le_of_lt
abbrev eF:=@Int.ediv_nonneg
abbrev rV:=@Int.ediv_le_self
abbrev lV:=@Int.mul_le_mul_of_nonpos_left
abbrev nV:=@Int.tdiv_eq_ediv_of_nonneg
abbrev sZ:=@Int.tmod_nonneg
abbrev kK:=@Int.natAbs_tmod
abbrev jJ:=@Int.emod_nonneg
abbrev fQ:=@Int.emod_lt_of_pos
abbrev gZ:=@Int.tmod_eq_emod_of_nonneg
abbrev iS:=@Nat.add_assoc
abbrev vA:=@Array.ext_getElem?
abbrev qY:=@Array.getElem?_modify
abbrev yM:=@Nat.ble_eq
abbrev bL:=@Int.eq_ofNat_of_zero_le
abbrev aU:=@Int.toNat_natCast
abbrev mR:=@Option.map_some
abbrev jT:=@List.map_cons
abbrev oS:=@List.foldl_cons
abbrev Az:=@List.mapM_cons
abbrev jE:=@Option.some.injEq
abbrev cE:=@List.take_append_of_le_length
abbrev cZ:=@List.take_of_length_le
abbrev jF:=@List.flatMap_cons
abbrev tD:=@List.take_left'
abbrev qL:=@Nat.zero_mul
abbrev eN:=@List.drop_zero
abbrev cQ:=@List.mem_cons_self
abbrev cC:=@List.mem_cons_of_mem
abbrev sM:=@Nat.mul_pos
abbrev aT:=@Nat.not_lt_zero
abbrev kU:=@Nat.le_of_eq
abbrev eW:=@List.drop_append_of_le_length
abbrev mW:=@Bool.true_and
abbrev bU:=@Int.mul_comm
abbrev tV:=@Int.zero_add
abbrev oD:=@Option.bind_some
abbrev vO:=@Prod.mk.inj
abbrev oF:=@Nat.lt_trans
abbrev lK:=@Option.getD_some
abbrev qZ:=@List.set_getElem_self
abbrev mE:=@UInt8.toNat_ofNat'
abbrev kL:=@List.length_map
abbrev xF:=@Nat.lt_of_not_le
abbrev fF:=@Nat.le_of_not_lt
abbrev bG:=@Classical.not_not
abbrev kM:=@Bool.eq_iff_iff
abbrev cJ:=@Iff.rfl
abbrev vP:=@Bool.eq_false_iff
abbrev jV:=@List.cons_append
abbrev bV:=@Nat.lt_of_le_of_lt
abbrev mF:=@List.getElem?_set_self
abbrev vQ:=@List.getElem?_map
abbrev jG:=@List.getElem?_cons_zero
abbrev eH:=@List.append_nil
abbrev qM:=@Nat.lt_trichotomy
abbrev tW:=@Nat.ne_of_lt
abbrev fG:=@List.all_eq_true
abbrev xG:=@List.any_eq_true
abbrev lL:=@List.mem_range
abbrev eO:=@Array.getElem?_toList
abbrev sN:=@List.drop_eq_nil_iff
abbrev iK:=@Nat.lt_succ_self
abbrev qN:=@List.mem_map
abbrev oH:=@Array.getElem?_eq_getElem
abbrev qO:=@decide_eq_true_eq
abbrev dP:=@List.length_singleton
abbrev dS:=@Int.toNat_of_nonneg
abbrev qP:=@List.pairwise_map
abbrev mG:=@List.mem_singleton
abbrev nB:=@Nat.lt_succ_of_lt
abbrev Ba:=@List.pairwise_append
abbrev vB:=@List.pairwise_cons
abbrev tI:=@List.map_congr_left
abbrev mS:=@List.mem_filter
abbrev tX:=@Int.zero_mul
abbrev dO:=@Int.mul_zero
abbrev cB:=@List.length_pos_iff
abbrev aC:=@Exists.intro
abbrev bZ:=@Int.natAbs_natCast
abbrev gI:=@List.drop_one
abbrev cU:=@Int.mul_nonneg
abbrev iX:=@List.mem_iff_getElem
abbrev cG:=@List.take_length
abbrev vD:=@decide_eq_true
abbrev iL:=@List.getElem_mem
abbrev xH:=@List.ext_getElem
abbrev gT:=@Nat.mul_assoc
abbrev jN:=@Nat.mul_le_mul_left
abbrev yN:=@Nat.le_mul_of_pos_left
abbrev yO:=@Rat.lt_iff
abbrev cR:=@Int.natAbs_mul
abbrev kV:=@Rat.le_of_lt
abbrev qQ:=@Rat.mul_nonneg
abbrev mH:=@Rat.div_mul_cancel
abbrev eV:=@Nat.mul_lt_mul''
abbrev sO:=@Nat.pow_add
abbrev hU:=@Nat.pow_succ
abbrev dX:=@Nat.pos_of_ne_zero
abbrev iM:=@Bool.not_eq_true
abbrev dG:=@Int.natCast_mul
abbrev kW:=@Nat.sub_self
abbrev sP:=@List.mem_append_left
abbrev vR:=@Int.le_refl
abbrev aZ:=@Int.mul_le_mul_of_nonneg_left
abbrev cY:=@Int.mul_add
abbrev fR:=@Int.mul_one
abbrev gN:=@Int.pow_succ
abbrev cV:=@Int.mul_assoc
abbrev yW:=@Nat.div_lt_self
abbrev cL:=@List.length_eq_zero_iff
abbrev gO:=@List.dropLast_concat_getLast
abbrev yX:=@List.headD_cons
abbrev sQ:=@List.replicate_succ'
abbrev dK:=@List.drop_eq_nil_of_le
abbrev fD:=@Int.add_zero
abbrev tE:=@Int.natCast_add
abbrev iT:=@Int.add_comm
abbrev nW:=@List.dropWhile_cons_of_pos
abbrev nX:=@List.dropWhile_cons_of_neg
abbrev mI:=@List.mem_replicate
abbrev lM:=@List.drop_length
abbrev bR:=@Int.mul_le_mul_of_nonneg_right
abbrev bO:=@Nat.pow_le_pow_right
abbrev vS:=@Int.pow_add
abbrev gC:=@List.take_append_drop
abbrev dV:=@List.mem_of_mem_take
abbrev gR:=@List.mem_of_mem_drop
abbrev qV:=@List.takeWhile_append_dropWhile
abbrev iH:=@Int.emod_add_mul_ediv
abbrev fK:=@Int.ediv_lt_of_lt_mul
abbrev iY:=@Int.mul_sub
abbrev iZ:=@Int.one_mul
abbrev Bb:=@Int.sub_mul
abbrev jU:=@Int.add_mul
abbrev sR:=@Int.ediv_emod_unique
abbrev qR:=@List.getElem_drop
abbrev iA:=@Int.le_ediv_iff_mul_le
abbrev nY:=@Int.lt_of_mul_lt_mul_right
abbrev oU:=@Int.ediv_mul_le
abbrev kX:=@Int.le_trans
abbrev fH:=@Nat.pow_lt_pow_iff_right
abbrev Bc:=@Int.natAbs_neg
abbrev oG:=@Int.natCast_ediv
abbrev rW:=@Int.natCast_emod
abbrev xI:=@Int.ediv_le_ediv
abbrev qS:=@Nat.gcd_comm
abbrev pF:=@Int.gcd_zero_right
abbrev oV:=@UInt8.toNat.inj
abbrev lN:=@Int.gcd_natCast_natCast
abbrev oL:=@List.dropWhile_cons
abbrev tF:=@List.length_nil
abbrev lD:=@Nat.add_eq_zero_iff
abbrev qT:=@Nat.mul_succ
abbrev oM:=@List.takeWhile_cons
noncomputable section
section
namespace Go.Eng
inductive Ty where
 | int (k:IntKind)
 | bool
 | str
 | pair (a b:Ty)
 | slice (t:Ty)
 deriving DecidableEq
abbrev _root_.ql:Ty:=.pair (.int .i64) .str
abbrev _root_.qk:Ty:=.pair .str (.pair .str .str)
abbrev _root_.qj:Ty:=.pair (.int .i64) (.int .i64)
abbrev _root_.qi:Ty:=.pair (.int .i64) ql
abbrev _root_.qh:Ty:=.pair (.int .i64) qj
abbrev _root_.qg:Ty:=.pair (.int .i64) (.pair .str qk)
abbrev _root_.qf:Ty:=.pair (.int .i64) qh
abbrev _root_.qe:Ty:=.pair (.int .i64) qf
abbrev _root_.qd:Ty:=.pair (.int .i64) (.pair (.int .i64) (.pair (.int .i64) (.pair (.int .i64) (.pair .bool qj))))
abbrev _root_.qc:Ty:=.slice qd
abbrev _root_.qb:Ty:=.pair (.int .i64) (.pair (.int .i64) (.pair (.int .i64) (.pair (.int .i64) (.pair (.int .i64) (.slice qj)))))
abbrev _root_.qa:Ty:=.pair (.int .i64) (.pair (.int .i64) (.pair qd (.pair qg (.pair qh (.pair qb (.pair qi (.pair qe (.pair qf ql))))))))
@[reducible] def Ty.T:Ty->Type
 | .int _=>Int
 | .bool=>Bool
 | .str=>Bx
 | .pair a b=>a.T × b.T
 | .slice t=>List t.T
def Ty.dflt:(t:Ty)->t.T
 | .int _=>(0:Int)
 | .bool=>false
 | .str=>[]
 | .pair a b=>(a.dflt,b.dflt)
 | .slice _=>[]
def Ty.flat:Ty->Bool
 | .slice _=>false
 | .pair a b=>a.flat&&b.flat
 | _=>true
def Ty.size:Ty->Nat
 | .pair a b=>a.size+b.size
 | _=>1
structure MapS (α:Type) where
 es:List (Nat × Int × α)
 clock:Nat
def Qc {α:Type}:List (Nat × Int × α)->Int->Option α
 | [],_=>none
 | e::r,n=>if e.2.1=n then some e.2.2 else Qc r n
def FS {α:Type}:List (Nat × Int × α)->Int->α->List (Nat × Int × α)
 | [],_,_=>[]
 | e::r,n,x=>if e.2.1=n then (e.1,n,x)::r else e::FS r n x
def MapS.get {α:Type}(m:MapS α)(n:Int):Option α:=Qc m.es n
def MapS.put {α:Type}(m:MapS α)(n:Int)(x:α):MapS α:=
 match Qc m.es n with
 | some _=>⟨FS m.es n x,m.clock⟩
 | none=>⟨m.es++ [(m.clock,n,x)],m.clock+1⟩
structure MapS.Wf {α:Type} (m:MapS α):Prop where
 born:∀e∈m.es,e.1<m.clock
 times:m.es.Pairwise fun a b=>a.1≠b.1
 keys:m.es.Pairwise fun a b=>a.2.1≠b.2.1
inductive SV where
 | any
 | val (v:Value)
 | bl (p:Prop) (d:Decidable p)
 | str (s:Bx)
 | seq (t:Ty) (xs:List t.T)
 | lit (es:Nat) (cells:List SV)
 | elem (t:Ty) (xs:List t.T) (i off:Nat)
 | lelem (cells:List SV) (off:Nat)
 | ptr (nm off:Nat)
 | ref (nm ver:Nat)
 | vptr (nm ver i sz off:Nat)
 | wide (nm ver:Nat)
 | agg (l:List SV)
 | tup (l:List SV)
 | clo (f:FuncId) (first caps:List SV)
 | yld (l:Nat)
 | itr (n:Nat) (items:Nat->List SV)
 | mp (nm:Nat)
 | sub (nm ver s i:Nat)
 | subp (nm ver s:Nat)
 | part (nm ver i j z:Nat)
 | lim (nm ver i z:Nat)
 | ifc
 | sft (i:Option Nat)
 | wcel (n:Int)
 | fmp (ks:List (Int × Int)) (vs:List SV)
 | num (k:IntKind)
inductive HO where
 | dead
 | frc (l:List SV)
 | gone
 | yst (st:Option Nat) (n:Nat) (items:Nat->List SV)
 | cells (l:List SV) (elem:TypeId)
 | vec (ver:Nat) (t:Ty) (xs:List t.T) (elem:TypeId)
 | fro (ver:Nat) (t:Ty) (xs:List t.T)
 | map (k:IntKind) (t:Ty) (m:MapS t.T)
 | mit (m since:Nat) (seen:List Nat) (c0:Nat)
 | res
 | vv (ver s:Nat) (t:Ty) (xss:List (List t.T)) (pend:Option (Nat × List t.T)) (eo ei:TypeId)
 | lnt (ver:Nat) (t:Ty) (xs:List t.T)
 | qm (ks:List (Int × Int)) (vs:List SV)
 | frm (ks:List (Int × Int)) (vs:List SV)
structure St where
 tmps:List (Nat × SV)
 heap:List HO
structure Need (p C:Prop):Prop where
 ok:p
 go:C
structure Giv (p C:Prop):Prop where
 go:p->C
structure Br (p A B:Prop):Prop where
 yes:p->A
 no:¬p->B
def chk (k:IntKind)(n:Int)(C:Prop):Prop:=
 match k with
 | .i8=>Need (-128<=n/\n<=127) C
 | .i16=>Need (-32768<=n/\n<=32767) C
 | .i32=>Need (-2147483648<=n/\n<=2147483647) C
 | .i64=>Need (-9223372036854775808<=n/\n<=9223372036854775807) C
 | .u8=>Need (0<=n/\n<=255) C
 | .u16=>Need (0<=n/\n<=65535) C
 | .u32=>Need (0<=n/\n<=4294967295) C
 | .u64=>Need (0<=n/\n<=18446744073709551615) C
def giv (k:IntKind)(n:Int)(C:Prop):Prop:=
 match k with
 | .i8=>Giv (-128<=n/\n<=127) C
 | .i16=>Giv (-32768<=n/\n<=32767) C
 | .i32=>Giv (-2147483648<=n/\n<=2147483647) C
 | .i64=>Giv (-9223372036854775808<=n/\n<=9223372036854775807) C
 | .u8=>Giv (0<=n/\n<=255) C
 | .u16=>Giv (0<=n/\n<=65535) C
 | .u32=>Giv (0<=n/\n<=4294967295) C
 | .u64=>Giv (0<=n/\n<=18446744073709551615) C
def lo:IntKind->Int
 | .i8=> -128 | .i16=> -32768 | .i32=> -2147483648 | .i64=> -9223372036854775808 | _=>0
def hi:IntKind->Int
 | .i8=>127 | .i16=>32767 | .i32=>2147483647 | .i64=>9223372036854775807
 | .u8=>255 | .u16=>65535 | .u32=>4294967295 | .u64=>18446744073709551615
def inK (k:IntKind)(n:Int):Prop:=lo k<=n/\n<=hi k
theorem Bd {k:IntKind}{n:Int}{C:Prop}(h:chk k n C):inK k n/\C:=by cases k<;>exact ⟨h.ok,h.go⟩
theorem C8 {k:IntKind}{n:Int}{C:Prop}(h:giv k n C)(c:inK k n):C:=by cases k<;>exact h.go c
def look (l:List (Nat × SV))(t:Nat):SV:=
 match l with
 | []=>.any
 | (i,v)::r=>bif Nat.beq i t then v else look r t
def put (l:List (Nat × SV))(t:Nat)(v:SV):List (Nat × SV):=
 match l with
 | []=>[(t,v)]
 | (i,u)::r=>bif Nat.beq i t then (t,v)::r else (i,u)::put r t v
def dQ {α:Type}{β:Sort _}:List α->(List α->β)->β
 | [],k=>k []
 | x::r,k=>dQ r fun r'=>k (x::r')
theorem cD {α:Type}{β:Sort _}(l:List α)(k:List α->β):dQ l k=k l:=by
 induction l generalizing k with
 | nil=>rfl
 | cons x r ih=>simp only[dQ];rw[ih]
def HY (v:Value):SV:=
 match v with
 | .int k n=>bif decide (lo k<=n)&&decide (n<=hi k) then .val (.int k n) else .any
 | .string s=>bif Nat.ble s.data.toList.length 140737488355328 then .str s.data.toList else .any
 | v=>.val v
def ev (l:List (Nat × SV)):Operand->SV
 | .tmp t=>look l t
 | .const v=>HY v
 | .func f=>.clo f [] []
 | .global _=>.any
def Co (s:SV)(K:SV->Prop):Prop:=
 match s with
 | .any=>K .any
 | .val v=>K (.val v)
 | .bl p d=>K (.bl p d)
 | .str s=>K (.str s)
 | .seq t xs=>K (.seq t xs)
 | .lit e c=>K (.lit e c)
 | .elem t xs i o=>K (.elem t xs i o)
 | .lelem c o=>K (.lelem c o)
 | .ptr a b=>K (.ptr a b)
 | .ref a b=>K (.ref a b)
 | .vptr a b i z o=>K (.vptr a b i z o)
 | .wide a b=>K (.wide a b)
 | .agg l=>K (.agg l)
 | .tup l=>K (.tup l)
 | .clo f a b=>K (.clo f a b)
 | .yld l=>K (.yld l)
 | .itr n i=>K (.itr n i)
 | .mp n=>K (.mp n)
 | .sub a b c d=>K (.sub a b c d)
 | .subp a b c=>K (.subp a b c)
 | .part a b c d e=>K (.part a b c d e)
 | .lim a b c d=>K (.lim a b c d)
 | .ifc=>K .ifc
 | .num k=>K (.num k)
 | .sft i=>K (.sft i)
 | .wcel n=>K (.wcel n)
 | .fmp a b=>K (.fmp a b)
theorem kF (s:SV)(K:SV->Prop):Co s K=K s:=by cases s<;>rfl
def nD (l:List SV)(K:List SV->Prop):Prop:=
 match l with
 | []=>K []
 | x::r=>Co x fun x'=>nD r fun r'=>K (x'::r')
theorem lW (l:List SV)(K:List SV->Prop):nD l K=K l:=by
 induction l generalizing K with
 | nil=>rfl
 | cons x r ih=>simp only[nD];rw[kF,ih]
def nG:List (Nat × SV)->(List (Nat × SV)->Prop)->Prop
 | [],k=>k []
 | (t,v)::r,k=>Co v fun v'=>nG r fun r'=>k ((t,v')::r')
theorem nZ (l:List (Nat × SV))(k:List (Nat × SV)->Prop):nG l k=k l:=by
 induction l generalizing k with
 | nil=>rfl
 | cons x r ih=>simp only[nG];rw[kF,ih]
def SU (o:HO)(K:HO->Prop):Prop:=
 match o with
 | .dead=>K .dead
 | .frc l=>nD l fun l'=>K (.frc l')
 | .gone=>K .gone
 | .yst st n items=>K (.yst st n items)
 | .cells l e=>nD l fun l'=>K (.cells l' e)
 | .vec v t xs e=>K (.vec v t xs e)
 | .fro v t xs=>K (.fro v t xs)
 | .map k t m=>K (.map k t m)
 | .mit m s l c=>K (.mit m s l c)
 | .res=>K .res
 | .vv a b c d e f g=>K (.vv a b c d e f g)
 | .lnt a b c=>K (.lnt a b c)
 | .qm a b=>dQ a fun a'=>nD b fun b'=>K (.qm a' b')
 | .frm a b=>dQ a fun a'=>nD b fun b'=>K (.frm a' b')
theorem N2 (s:HO)(K:HO->Prop):SU s K=K s:=by cases s<;>simp only[SU,lW,cD]
def pY:List HO->(List HO->Prop)->Prop
 | [],k=>k []
 | o::r,k=>SU o fun o'=>pY r fun r'=>k (o'::r')
theorem pG (l:List HO)(k:List HO->Prop):pY l k=k l:=by
 induction l generalizing k with
 | nil=>rfl
 | cons x r ih=>simp only[pY];rw[N2,ih]
def wC (N:Nat)(l:List (Nat × SV))(d:Option Nat)(v:SV)(K:List (Nat × SV)->Prop):Prop:=
 match d with
 | none=>K l
 | some t=>bif Nat.blt t N then dQ (put l t v) K else False
def enc:(t:Ty)->t.T->List SV
 | .int k,n=>[.val (.int k n)]
 | .bool,b=>[.bl (b=true) inferInstance]
 | .str,s=>[.str s]
 | .pair a b,x=>enc a x.1++enc b x.2
 | .slice t,xs=>[.seq t xs]
def H5:(t:Ty)->t.T->Prop->Prop
 | .int k,n,C=>giv k n C
 | .pair a b,x,C=>H5 a x.1 (H5 b x.2 C)
 | .slice t,xs,C=>Giv (length (α:=t.T) xs<=140737488355328) C
 | _,_,C=>C
def SW:(t:Ty)->(t.T->Prop)->Prop
 | .int _,K=>K (0:Int)
 | .bool,K=>K false
 | .str,K=>K []
 | .pair a b,K=>SW a fun x=>SW b fun y=>K (x,y)
 | .slice _,K=>K []
theorem Ku:∀(t:Ty) (K:t.T->Prop),SW t K=K t.dflt
 | .int _,_=>rfl
 | .bool,_=>rfl
 | .str,_=>rfl
 | .pair a b,K=>by simp only[SW,Ty.dflt];rw[Ku a,Ku b]
 | .slice _,_=>rfl
structure Ix (n:Int) (C:Nat->Prop):Prop where
 go:∀i:Nat,n=(i:Int)->C i
theorem Ix.nat {j:Nat}{C:Nat->Prop}(h:C j):Ix (j:Int) C:=by
 refine ⟨fun i e=>?_⟩;have:j=i:=om;subst this;exact h
theorem Ix.add {j:Nat}{C:Nat->Prop}(h:C (j+1)):Ix ((j:Int)+1) C:=by
 refine ⟨fun i e=>?_⟩;have:j+1=i:=om;subst this;exact h
theorem Ix.zero {C:Nat->Prop}(h:C 0):Ix 0 C:=by
 refine ⟨fun i e=>?_⟩;have:0=i:=om;subst this;exact h
theorem Ix.one {C:Nat->Prop}(h:C 1):Ix 1 C:=by
 refine ⟨fun i e=>?_⟩;have:1=i:=om;subst this;exact h
theorem Ix.two {C:Nat->Prop}(h:C 2):Ix 2 C:=by
 refine ⟨fun i e=>?_⟩;have:2=i:=om;subst this;exact h
theorem Br.mkY {p A B:Prop}(e:p)(h:A):Br p A B:=⟨fun _=>h,fun c=>absurd e c⟩
theorem Br.mkN {p A B:Prop}(c:¬p)(h:B):Br p A B:=⟨fun h=>absurd h c,fun _=>h⟩
theorem Ix.use {n:Int}{C:Nat->Prop}(h:Ix n C)(c:0<=n):C n.toNat:=h.go _ om
def one (l:List SV):SV:=
 match l with
 | [v]=>v
 | vs=>.agg vs
def bX (H:List HO)(n:Nat):HO:=H.getD n .dead
def cA (H:List HO)(n:Nat)(o:HO):List HO:=H.set n o
def Cq:HO->Bool
 | .res=>true
 | _=>false
def lE (H:List HO)(nm:Nat):Bool:=Nat.blt nm H.length&& !Cq (bX H nm)
def iU (H:List HO)(nm:Nat):Nat:=
 match bX H nm with
 | .vec v _ _ _=>v
 | .fro v _ _=>v
 | _=>0
def cur (H:List HO)(nm:Nat):SV:=.ref nm (iU H nm)
def AZ (H:List HO):SV->Bool
 | .val v=>match v with
  | .agg _=>false
  | .tuple _=>false
  | _=>true
 | .bl _ _=>true
 | .str _=>true
 | .seq _ _=>true
 | .lit _ _=>true
 | .elem _ _ _ _=>true
 | .lelem _ _=>true
 | .clo _ _ _=>true
 | .yld _=>true
 | .ifc=>true
 | .num _=>true
 | .wcel _=>true
 | .ptr nm _=>match bX H nm with
  | .cells _ _=>true
  | _=>false
 | .mp nm=>match bX H nm with
  | .map _ _ _=>true
  | .qm _ _=>true
  | _=>false
 | .fmp _ _=>true
 | .ref nm k=>match bX H nm with
  | .vec v _ _ _=>Nat.beq v k
  | .fro v _ _=>Nat.beq v k
  | .vv v _ _ _ _ _ _=>Nat.beq v k
  | _=>false
 | _=>false
def C9 (H:List HO):List SV->Bool
 | []=>true
 | x::r=>AZ H x&&C9 H r
def Kv (H:List HO):SV->Bool
 | .agg _=>true
 | s=>AZ H s
def vG (H:List HO):List (Nat × SV)->Bool
 | []=>true
 | (_,x)::r=>Kv H x&&vG H r
def Kw (H:List HO):SV->Bool
 | .ptr nm _=>match bX H nm with
  | .cells _ _=>true
  | _=>false
 | .vptr nm k _ _ _=>match bX H nm with
  | .vec v _ _ _=>Nat.beq v k
  | _=>false
 | .elem _ _ _ _=>true
 | .lelem _ _=>true
 | .wcel _=>true
 | _=>false
def DA (H:List HO):SV->SV
 | .ref nm ver=>match bX H nm with
  | .vec v t xs _=>bif Nat.beq v ver then .seq t xs else .any
  | .fro v t xs=>bif Nat.beq v ver then .seq t xs else .any
  | _=>.any
 | s=>s
def H6 (l:List SV)(off:Nat):SV:=
 match l,off with
 | [.val (.int .i64 n)],0=>.wcel n
 | l,off=>.lelem l off
def eU (lend:Bool)(H:List HO)(s:SV):SV:=
 match s with
 | .ref nm ver=>match bX H nm with
  | .vec v t xs _=>bif lend&&Nat.beq v ver then .seq t xs else .any
  | .fro v t xs=>bif Nat.beq v ver then .seq t xs else .any
  | _=>.any
 | .ptr nm off=>match bX H nm with
  | .frc l=>H6 l off
  | .cells l _=>bif lend then .lelem (l.map (DA H)) off else .ptr nm off
  | _=>.ptr nm off
 | .subp nm ver s=>match bX H nm with
  | .lnt v t xs=>bif lend&&(t.flat&&(Nat.beq v ver&&Nat.beq s 0)) then .seq t xs else .any
  | _=>.any
 | .mp nm=>match bX H nm with
  | .frm ks vs=>.fmp ks vs
  | _=>.mp nm
 | s=>s
def bare:SV->Bool
 | .any=>true
 | .val _=>true
 | .bl _ _=>true
 | .str _=>true
 | .seq _ _=>true
 | .elem _ _ _ _=>true
 | .lit _ l=>bareL l
 | .lelem l _=>bareL l
 | .agg l=>bareL l
 | .tup l=>bareL l
 | .clo _ a b=>bareL a&&bareL b
 | .ifc=>true
 | .num _=>true
 | .wcel _=>true
 | .fmp _ l=>bareL l
 | _=>false
where bareL:List SV->Bool
 | []=>true
 | x::r=>bare x&&bareL r
def sS (H:List HO):List SV->List HO
 | []=>H
 | .ref nm ver::r=>match bX H nm with
  | .vec v t xs _=>bif Nat.beq v ver then sS (cA H nm (.fro v t xs)) r else sS H r
  | _=>sS H r
 | _::r=>sS H r
def Pd (H:List HO)(s:SV):List HO:=
 match s with
 | .ref nm ver=>match bX H nm with
  | .vec v t xs _=>bif Nat.beq v ver then cA H nm (.fro v t xs) else H
  | _=>H
 | .ptr nm _=>match bX H nm with
  | .cells l _=>bif bare.bareL (l.map (eU false (sS H l))) then cA (sS H l) nm (.frc (l.map (eU false (sS H l)))) else H
  | _=>H
 | .mp nm=>match bX H nm with
  | .qm ks vs=>cA H nm (.frm ks vs)
  | _=>H
 | _=>H
def FT (H:List HO):List SV->List HO
 | []=>H
 | s::r=>FT (Pd H s) r
def jO (H:List HO):List SV->List HO
 | []=>H
 | .agg l::r=>jO (FT H l) r
 | .tup l::r=>jO (FT H l) r
 | .clo _ a b::r=>jO (FT (FT H a) b) r
 | s::r=>jO (Pd H s) r
def yP (lend:Bool)(H:List HO):SV->SV
 | .ref nm ver=>eU lend H (.ref nm ver)
 | .ptr nm off=>eU lend H (.ptr nm off)
 | .subp nm ver s=>eU lend H (.subp nm ver s)
 | .mp nm=>eU lend H (.mp nm)
 | .clo f a b=>.clo f (a.map (eU lend H)) (b.map (eU lend H))
 | .agg l=>.agg (l.map (eU lend H))
 | .tup l=>.tup (l.map fun s=>match s with
   | .agg l=>.agg (l.map (eU lend H))
   | s=>eU lend H s)
 | s=>s
def tyOf (P:Program):Nat->TypeId->Option Ty
 | 0,_=>none
 | n+1,t=>match P.underlying t with
  | some (.int k)=>some (.int k)
  | some .bool=>some .bool
  | some .string=>some .str
  | some (.slice e)=>(tyOf P n e).map .slice
  | some (.struct fs)=>flds P n fs.toList
  | _=>none
where flds (P:Program):Nat->List Field->Option Ty
 | 0,_=>none
 | _,[]=>none
 | n+1,[f]=>tyOf P n f.type
 | n+1,f::r=>match tyOf P n f.type,flds P n r with
  | some a,some b=>some (.pair a b)
  | _,_=>none
def Gc (P:Program)(t:TypeId):Option Bool:=
 match P.underlying t with
 | some (.struct _)=>some true
 | some (.array _ _)=>some true
 | some _=>some false
 | none=>none
def jQ (P:Program)(t:TypeId):Option Nat:=
 match P.info? t with
 | some i=>some i.size
 | none=>none
def dC:SV->List SV
 | .agg l=>l
 | s=>[s]
def rA (P:Program)(t:TypeId):Option (List SV):=
 match P.info? t with
 | some i=>match i.zero with
  | some z=>some (z.cells.toList.map HY)
  | none=>none
 | none=>none
structure Con where
 f:FuncId
 fresh:Bool
 cl:List SV->(SV->Prop)->Prop
 lin:Option (Nat × Bool × (List SV->HO->(SV->HO->Prop)->Prop)):=none
 own:Option (List SV->(SV->HO->Prop)->Prop):=none
 hp:Option (List SV->List HO->(SV->List HO->Prop)->Prop):=none
abbrev aV (f:FuncId)(fresh:Bool)(cl:List SV->(SV->Prop)->Prop):Con:=⟨f,fresh,cl,none,none,none⟩
abbrev rB (f:FuncId)(pos:Nat)(same:Bool)(cl:List SV->HO->(SV->HO->Prop)->Prop):Con:=⟨f,true,fun _ _=>False,some (pos,same,cl),none,none⟩
abbrev H7 (f:FuncId)(fresh:Bool)(pos:Nat)(same:Bool)(lin:List SV->HO->(SV->HO->Prop)->Prop)(cl:List SV->(SV->Prop)->Prop):Con:=⟨f,fresh,cl,some (pos,same,lin),none,none⟩
abbrev sU (f:FuncId)(cl:List SV->(SV->HO->Prop)->Prop):Con:=⟨f,true,fun _ _=>False,none,some cl,none⟩
abbrev Kx (f:FuncId)(cl:List SV->List HO->(SV->List HO->Prop)->Prop):Con:=⟨f,true,fun _ _=>False,none,none,some cl⟩
def Ef (Γ:List Con)(f:FuncId):Option Con:=
 match Γ with
 | []=>none
 | c::r=>bif Nat.beq c.f f then some c else Ef r f
def Hu {t' t:Ty}(e:t'=t)(ys:List t'.T)(K:List t.T->Prop):Prop:=Eq.rec (motive:=fun t _=>(List t.T->Prop)->Prop) (fun K=>K ys) e K
theorem pZ {c t:Ty}(e:c=t)(ys:List c.T)(K:List t.T->Prop):Hu e ys K=K (e ▸ ys):=by subst e;rfl
def yQ (t t':Ty)(xs:List t.T)(ys:List t'.T):Prop:=if h:t=t' then Hu h xs (fun xs=>xs=ys) else False
def ent:SV->SV->Prop
 | _,.any=>True
 | .val (.int k a),.val (.int k' b)=>k=k'/\a=b
 | .val (.bool a),.val (.bool b)=>a=b
 | .val (.bool true),.bl q _=>q
 | .val (.bool false),.bl q _=>¬q
 | .bl p _,.bl q _=>p↔q
 | .bl p _,.val (.bool b)=>p↔b=true
 | .val v,.val v'=>v=v'
 | .str s,.str s'=>s=s'
 | .seq t xs,.seq t' ys=>yQ t t' xs ys
 | .val (.slice none 0 0),.seq _ ys=>ys= []
 | .ptr a i,.ptr b j=>a=b/\i=j
 | .ref a i,.ref b j=>a=b/\i=j
 | .mp a,.mp b=>a=b
 | .yld a,.yld b=>a=b
 | .sft a,.sft b=>a=b
 | .wcel a,.wcel b=>a=b
 | .fmp k l,.fmp k' l'=>k=k'/\entL l l'
 | .agg l,.agg l'=>entL l l'
 | .tup l,.tup l'=>entL l l'
 | .clo f a b,.clo f' a' b'=>f=f'/\entL a a'/\entL b b'
 | .lit e l,.lit e' l'=>e=e'/\entL l l'
 | .lelem l i,.lelem l' i'=>i=i'/\entL l l'
 | .ifc,.ifc=>True
 | .num a,.num b=>a=b
 | .val (.int k _),.num b=>k=b
 | .val .nilIface,.ifc=>True
 | _,_=>False
where entL:List SV->List SV->Prop
 | [],[]=>True
 | x::r,y::r'=>ent x y/\entL r r'
 | _,_=>False
def DB:SV->SV
 | .val v=>.val v
 | .bl p d=>.bl p d
 | .str s=>.str s
 | _=>.any
def Wg:SV->SV
 | .agg l=>.agg (l.map DB)
 | s=>DB s
def N3 (H:List HO):SV->SV
 | .ref nm k=>match bX H nm with
  | .vec v t xs _=>bif Nat.beq v k&&t.flat then .seq t xs else .any
  | _=>.any
 | s=>Wg s
structure Two (A B:Prop):Prop where
 one:A
 two:B
structure Alt (A B:Prop):Prop where
 or:A\/B
theorem Alt.l {A B:Prop}(h:A):Alt A B:=⟨.inl h⟩
theorem Alt.r {A B:Prop}(h:B):Alt A B:=⟨.inr h⟩
def Hv (op:BinOp)(k:IntKind)(a b:Int):Int:=
 match op with
 | .and=>k.wrap (BitVec.ofInt k.bits a&&& BitVec.ofInt k.bits b).toNat
 | .or=>k.wrap (BitVec.ofInt k.bits a ||| BitVec.ofInt k.bits b).toNat
 | .xor=>k.wrap (BitVec.ofInt k.bits a ^^^BitVec.ofInt k.bits b).toNat
 | _=>k.wrap (BitVec.ofInt k.bits a&&& ~~~(BitVec.ofInt k.bits b)).toNat
def VI (k:IntKind)(a b:Int):Int:=k.wrap (a*2^ (min b.toNat k.bits))
def H8 (k:IntKind)(a b:Int):Int:=a.fdiv (2^ (min b.toNat k.bits))
def Sc (op:BinOp)(k:IntKind)(a b:Int)(K:SV->Prop):Prop:=
 match op with
 | .shl=>Need (0<=b) (K (.val (.int k (VI k a b))))
 | .shr=>Need (0<=b) (K (.val (.int k (H8 k a b))))
 | _=>False
def DC:BinOp->Bool
 | .shl=>true
 | .shr=>true
 | _=>false
def H9 (op:BinOp)(k:IntKind)(a b:Int)(K:SV->Prop):Prop:=
 match op with
 | .add=>chk k (a+b) (K (.val (.int k (a+b))))
 | .sub=>chk k (a-b) (K (.val (.int k (a-b))))
 | .mul=>chk k (a*b) (K (.val (.int k (a*b))))
 | .quo=>Alt (Need (0<=a/\0<b) (K (.val (.int k (a/b))))) (Need (¬b=0) (chk k (a.tdiv b) (K (.val (.int k (a.tdiv b))))))
 | .rem=>Alt (Need (0<=a/\0<b) (K (.val (.int k (a%b))))) (Need (¬b=0) (K (.val (.int k (a.tmod b)))))
 | .and=>K (.val (.int k (Hv .and k a b)))
 | .or=>K (.val (.int k (Hv .or k a b)))
 | .xor=>K (.val (.int k (Hv .xor k a b)))
 | .andNot=>K (.val (.int k (Hv .andNot k a b)))
 | .eql=>K (.bl (a=b) inferInstance)
 | .neq=>K (.bl (¬a=b) inferInstance)
 | .lss=>K (.bl (a<b) inferInstance)
 | .leq=>K (.bl (a<=b) inferInstance)
 | .gtr=>K (.bl (b<a) inferInstance)
 | .geq=>K (.bl (b<=a) inferInstance)
 | _=>False
def IA (op:BinOp)(k:IntKind)(K:SV->Prop):Prop:=
 match op with
 | .add=>K (.num k)
 | .lss=>∀p:Prop,K (.bl p (Classical.propDecidable p))
 | .leq=>∀p:Prop,K (.bl p (Classical.propDecidable p))
 | .gtr=>∀p:Prop,K (.bl p (Classical.propDecidable p))
 | .geq=>∀p:Prop,K (.bl p (Classical.propDecidable p))
 | _=>False
def Be (P:Program)(t:TypeId):Bool:=match P.underlying t with
 | some (.slice _)=>true
 | _=>false
def rC (P:Program)(t:TypeId):Bool:=match P.underlying t with
 | some .bool=>true
 | _=>false
def Eg (op:BinOp)(p:Prop)(K:SV->Prop):Prop:=
 match op with
 | .eql=>∀q:Prop,(q->p)->K (.bl q (Classical.propDecidable q))
 | .neq=>∀q:Prop,(¬q->p)->K (.bl q (Classical.propDecidable q))
 | _=>False
def IC (op:BinOp)(a b:Bx)(K:SV->Prop):Prop:=
 match op with
 | .eql=>K (.bl (a=b) inferInstance)
 | .neq=>K (.bl (¬a=b) inferInstance)
 | .add=>Need (a.length+b.length<=140737488355328) (K (.str (a++b)))
 | .lss=>K (.bl (Op.bytesLess a b=true) inferInstance)
 | .gtr=>K (.bl (¬Op.bytesLess a b=true/\¬a=b) inferInstance)
 | _=>False
def xJ (P:Program)(t:TypeId):Bool:=match P.underlying t with
 | some (.interface _)=>true
 | _=>false
def Kb:Operand->Bool
 | .const _=>true
 | _=>false
def SX (op:BinOp)(K:SV->Prop):Prop:=
 match op with
 | .eql=>K (.val (.bool true))
 | .neq=>K (.val (.bool false))
 | _=>False
def Gd (op:BinOp)(p q:Prop)(K:SV->Prop):Prop:=
 match op with
 | .eql=>K (.bl (p↔q) Cp)
 | .neq=>K (.bl (¬(p↔q)) Cp)
 | _=>False
def A0 (a b c:SV)(K:SV->Prop):Prop:=
 match c with
 | .val (.bool true)=>Co a K
 | .val (.bool false)=>Co b K
 | .bl p _=>Br p (Co a K) (Co b K)
 | _=>False
def Ky (k:IntKind)(a:Int):List SV->(SV->Prop)->Prop
 | [],K=>K (.val (.int k a))
 | .val (.int k' b)::r,K=>bif decide (k=k') then Ky k (max a b) r K else False
 | _,_=>False
def Kz (k:IntKind)(a:Int):List SV->(SV->Prop)->Prop
 | [],K=>K (.val (.int k a))
 | .val (.int k' b)::r,K=>bif decide (k=k') then Kz k (min a b) r K else False
 | _,_=>False
def oI (ag:Bool)(off sz:Nat)(l:List SV)(K:SV->Prop):Prop:=
 match ag with
 | true=>bif Nat.ble (off+sz) l.length then dQ ((l.drop off).take sz) fun l'=>K (.agg l') else False
 | false=>bif Nat.blt off l.length then Co (l.getD off .any) K else False
def A2 (P:Program)(t:TypeId)(H:List HO)(s:SV)(K:SV->Prop):Prop:=
 match Gc P t,jQ P t with
 | some ag,some sz=>match s with
  | .ptr nm off=>match bX H nm with
   | .cells l _=>oI ag off sz l K
   | _=>False
  | .elem ty xs i off=>SW ty fun d=>H5 ty (xs.getD i d) (oI ag off sz (enc ty (xs.getD i d)) K)
  | .lelem l off=>oI ag off sz l K
  | .wcel n=>oI ag 0 sz [.val (.int .i64 n)] K
  | .sft (some i)=>match bX H 0 with
   | .yst (some _) m _=>bif !ag&&Nat.beq sz 1 then Need (i<m) (K .any) else False
   | _=>False
  | .vptr nm ver i z off=>match bX H nm with
   | .vec v ty xs _=>bif Nat.beq v ver&&Nat.beq z ty.size then SW ty fun d=>H5 ty (xs.getD i d) (oI ag off sz (enc ty (xs.getD i d)) K) else False
   | _=>False
  | _=>False
 | _,_=>False
def A3:List SV->Option Int
 | [.val (.int _ n)]=>some n
 | _=>none
def DD:List SV->Option Bool
 | [.val (.bool b)]=>some b
 | [.bl _ d]=>some (@decide _ d)
 | _=>none
def A4:List SV->Option (Bx)
 | [.str s]=>some s
 | _=>none
def Wh (t:Ty):List SV->Option (List t.T)
 | [.seq t' xs]=>if h:t'=t then some (h ▸ xs) else none
 | [.val (.slice none 0 0)]=>some []
 | _=>none
def HZ:(t:Ty)->List SV->Option t.T
 | .int _,l=>A3 l
 | .bool,l=>DD l
 | .str,l=>A4 l
 | .slice t,l=>Wh t l
 | .pair a b,l=>match HZ a (l.take a.size),HZ b (l.drop a.size) with
  | some x,some y=>some (x,y)
  | _,_=>none
def A5 (k:IntKind):List SV->Bool
 | [.val (.int k' _)]=>decide (k=k')
 | _=>false
def rX:(t:Ty)->List SV->Bool
 | .int k,l=>A5 k l
 | .pair a b,l=>rX a (l.take a.size)&&rX b (l.drop a.size)
 | _,_=>true
def setCells (l:List SV)(off:Nat):List SV->List SV
 | []=>l
 | v::r=>setCells (l.set off v) (off+1) r
def SY (l:List SV)(off:Nat)(r:List SV):List SV:=
 match off with
 | 0=>bif Nat.beq r.length l.length then r else setCells l 0 r
 | o+1=>setCells l (o+1) r
def Kc (P:Program)(t:TypeId)(H:List HO)(s x:SV)(K:List HO->Prop):Prop:=
 match s,jQ P t with
 | .ptr nm off,some sz=>match bX H nm with
  | .cells l e=>bif Kv H x&&C9 H (dC x)&&Nat.beq (dC x).length sz&&Nat.ble (off+sz) l.length then dQ (SY l off (dC x)) fun l'=>dQ (cA H nm (.cells l' e)) K else False
  | _=>False
 | .vptr nm ver i z off,some sz=>match bX H nm with
  | .vec v ty xs e=>bif Kv H x&&Nat.beq v ver&&Nat.beq z ty.size&&Nat.beq (dC x).length sz&&Nat.ble (off+sz) ty.size then (SW ty fun d=>match setCells (enc ty (xs.getD i d)) off (dC x) with
   | l=>bif rX ty l then (match HZ ty l with
    | some y=>dQ (cA H nm (.vec v ty (xs.set i y) e)) K
    | none=>False) else False) else False
  | _=>False
 | .wcel n,some sz=>match x with
  | .val (.int .i64 m)=>bif Nat.beq sz 1 then Need (m=n) (K H) else False
  | _=>False
 | _,_=>False
def xK (H:List HO)(o:HO)(K:SV->List HO->Prop):Prop:=dQ (H++ [o]) fun H'=>K (.ptr H.length 0) H'
def Bf (P:Program)(t:TypeId)(f:Nat):Option (Nat × Nat × Bool):=
 match P.underlying t with
 | some (.struct fs)=>match fs[f]? with
  | some fd=>match jQ P fd.type,Gc P fd.type with
   | some sz,some ag=>some (fd.offset,sz,ag)
   | _,_=>none
  | none=>none
 | _=>none
def fZ (P:Program)(t:TypeId):Option TypeId:=
 match P.underlying t with
 | some (.slice e)=>some e
 | _=>none
def FU:List SV->Int->(Int->Prop)->Prop
 | [],n,K=>K n
 | _::r,n,K=>FU r (n+1) K
theorem Sd:∀(l:List SV) (n:Int) (K:Int->Prop),FU l n K=K (n+(l.length:Int))
 | [],n,K=>by simp[FU]
 | _::r,n,K=>by simp only[FU,cF];rw[Sd r];congr 1;omega
def A6 (es:Nat):List SV->Nat->Int->(Int->Prop)->Prop
 | [],_,n,K=>K n
 | _::r,0,n,K=>A6 es r (es-1) (n+1) K
 | _::r,k+1,n,K=>A6 es r k n K
theorem Se {es:Nat}(e:0<es):∀(l:List SV) (k m:Nat) (n:Int) (K:Int->Prop),l.length=m*es+k->k<es->A6 es l k n K=K (n+m)
 | [],k,m,n,K,h,hk=>by
  have:m=0:=by
   rcases dF m with c | c
   ·exact c
   have:=eK c (aI es);simp at h this;omega
  subst this;simp[A6]
 | _::r,0,m,n,K,h,hk=>by
  obtain ⟨j,rfl⟩:∃j,m=j+1:=by
   rcases dF m with c | c
   ·subst c;simp at h
   exact ⟨m-1,om⟩
  simp only[A6];rw[Se e r (es-1) j (n+1) K (by rw[bI] at h;simp at h;omega) om];congr 1;omega
 | _::r,k+1,m,n,K,h,hk=>by
  simp only[A6];exact Se e r k m n K (by simp at h;omega) om
def Sf (P:Program)(t:TypeId)(H:List HO)(x i:SV)(K:SV->Prop):Prop:=
 match fZ P t,i with
 | some e,.val (.int _ n)=>match jQ P e with
  | some sz=>match x with
   | .seq ty xs=>bif Nat.beq sz ty.size then Need (0<=n/\n<xs.length) (Ix n fun i=>K (.elem ty xs i 0)) else False
   | .lit es l=>bif Nat.beq sz es then FU l 0 fun m=>Need (0<=n/\n*(es:Int)<m) (K (.lelem l (n.toNat*es))) else False
   | .sft none=>match bX H 0 with
    | .yst (some _) m _=>bif Nat.beq sz 1 then Need (0<=n/\n<(m:Int)) (Ix n fun i=>K (.sft (some i))) else False
    | _=>False
   | .ref nm ver=>match bX H nm with
    | .vec v ty xs _=>bif Nat.beq v ver&&Nat.beq sz ty.size then Need (0<=n/\n<xs.length) (Ix n fun i=>K (.vptr nm ver i sz 0)) else False
    | .fro v ty xs=>bif Nat.beq v ver&&Nat.beq sz ty.size then Need (0<=n/\n<xs.length) (Ix n fun i=>K (.elem ty xs i 0)) else False
    | _=>False
   | .part nm ver a b z=>match bX H nm with
    | .vec v ty xs _=>bif Nat.beq v ver&&(Nat.beq sz ty.size&&Nat.beq z sz) then Need (0<=n/\n<((b-a:Nat):Int)) (Ix n fun i=>K (.vptr nm v (a+i) sz 0)) else False
    | _=>False
   | _=>False
  | none=>False
 | _,_=>False
def QK (P:Program)(t:TypeId):Option (Nat × TypeId):=
 match P.underlying t with
 | some (.array n e)=>some (n,e)
 | _=>none
def A7 (P:Program)(t:TypeId)(H:List HO)(x i:SV)(K:SV->Prop):Prop:=
 match QK P t,x,i with
 | some (n,e),.ptr nm off,.val (.int _ j)=>match jQ P e with
  | some sz=>bif Kw H (.ptr nm off) then Need (0<=j/\j<n) (Ix j fun j=>K (.ptr nm (off+j*sz))) else False
  | none=>False
 | _,_,_=>False
def DE (H:List HO)(x:SV)(K:SV->Prop):Prop:=
 match x with
 | .seq _ xs=>Giv (xs.length<=140737488355328) (K (.val (.int .i64 xs.length)))
 | .str s=>Giv (s.length<=140737488355328) (K (.val (.int .i64 s.length)))
 | .lit es l=>bif Nat.ble l.length 1000 then (bif Nat.beq es 1 then FU l 0 fun m=>K (.val (.int .i64 m)) else bif Nat.blt 0 es then A6 es l 0 0 fun m=>K (.val (.int .i64 m)) else False) else False
 | .val (.slice none 0 0)=>K (.val (.int .i64 0))
 | .sft none=>match bX H 0 with
  | .yst (some _) m _=>Giv (m<=140737488355328) (K (.val (.int .i64 m)))
  | _=>False
 | .part nm ver i j _=>match bX H nm with
  | .vec v _ xs _=>bif Nat.beq v ver then K (.val (.int .i64 ((j-i:Nat):Int))) else False
  | _=>False
 | .ref nm ver=>match bX H nm with
  | .vec v _ xs _=>bif Nat.beq v ver then Giv (xs.length<=140737488355328) (K (.val (.int .i64 xs.length))) else False
  | .fro v _ xs=>bif Nat.beq v ver then Giv (xs.length<=140737488355328) (K (.val (.int .i64 xs.length))) else False
  | _=>False
 | _=>False
def Sg (P:Program)(fs:List Field):Option (List (Nat × Nat)):=
 match fs with
 | []=>some []
 | f::r=>match jQ P f.type,Sg P r with
  | some sz,some l=>some ((f.offset,sz)::l)
  | _,_=>none
def uJ (pl:List (Nat × Nat))(cells:List SV):List (Nat × SV)->Option (List SV)
 | []=>some cells
 | (i,v)::r=>match pl[i]? with
  | some (off,sz)=>bif Nat.beq (dC v).length sz&&Nat.ble (off+sz) cells.length then uJ pl (setCells cells off (dC v)) r else none
  | none=>none
def Wi (pl:List (Nat × Nat))(o:Nat):List (Nat × SV)->Option (List SV)
 | []=>some []
 | (i,v)::r=>match pl[i]? with
  | some (off,sz)=>bif Nat.beq off o&&Nat.beq (dC v).length sz then (match Wi pl (o+sz) r with
   | some l=>some (dC v++l)
   | none=>none) else none
  | none=>none
def ID (pl:List (Nat × Nat))(cells:List SV)(parts:List (Nat × SV)):Option (List SV):=
 match Wi pl 0 parts with
 | some l=>bif Nat.beq l.length cells.length then some l else uJ pl cells parts
 | none=>uJ pl cells parts
def Sh (P:Program)(t:TypeId)(parts:List (Nat × SV))(K:SV->Prop):Prop:=
 match P.underlying t,rA P t with
 | some (.struct fs),some z=>match Sg P fs.toList with
  | some pl=>match ID pl z parts with
   | some l=>nD l fun l'=>K (.agg l')
   | none=>False
  | none=>False
 | _,_=>False
def Bg (sz:Nat):Nat->Nat->List (Nat × Nat)
 | 0,_=>[]
 | n+1,off=>(off,sz)::Bg sz n (off+sz)
def A8 (P:Program)(t:TypeId)(parts:List (Nat × SV))(K:SV->Prop):Prop:=
 match P.underlying t,rA P t with
 | some (.array n e),some z=>match jQ P e with
  | some sz=>match uJ (Bg sz n 0) z parts with
   | some l=>nD l fun l'=>K (.agg l')
   | none=>False
  | none=>False
 | _,_=>False
def DF (P:Program)(t:TypeId):Bool:=match P.underlying t with
 | some (.array _ _)=>true
 | _=>false
def La (t:Ty):List (Nat × SV)->Nat->Option (List t.T)
 | [],_=>some []
 | (i,v)::r,n=>bif Nat.beq i n&&Nat.beq (dC v).length t.size&&rX t (dC v) then (match HZ t (dC v),La t r (n+1) with
  | some x,some l=>some (x::l)
  | _,_=>none) else none
def Lb:List (Nat × SV)->Nat->Option (List SV)
 | [],_=>some []
 | (i,v)::r,n=>bif Nat.beq i n&&Nat.beq (dC v).length 1 then (match Lb r (n+1) with
  | some l=>some (v::l)
  | none=>none) else none
def Si {β:Sort _}(n:Nat)(k:Nat->β):β:=match n with
 | 0=>k 0
 | m+1=>k (m+1)
theorem Qd {β:Sort _}(n:Nat)(k:Nat->β):Si n k=k n:=by cases n<;>rfl
def Ld (sz:Nat):List (Nat × SV)->Nat->Option (List SV)
 | [],_=>some []
 | (i,v)::r,n=>match v with
  | .agg l=>bif Nat.beq i n&&Nat.beq l.length sz then (match Ld sz r (n+1) with
   | some m=>some (l++m)
   | none=>none) else none
  | _=>none
def IE (P:Program)(t:TypeId):Bool:=
 match P.info? t with
 | some i=>i.zero.isSome
 | none=>false
def A9:List SV->Bool
 | []=>true
 | .agg _:: _=>false
 | _::r=>A9 r
structure Own (A B:Prop):Prop where
 or:A\/B
theorem Own.l {A B:Prop}(h:A):Own A B:=⟨.inl h⟩
theorem Own.r {A B:Prop}(h:B):Own A B:=⟨.inr h⟩
def tJ (P:Program)(t:TypeId)(len:Nat)(parts:List (Nat × SV))(H:List HO)(K:SV->List HO->Prop):Prop:=
 bif Nat.beq parts.length len&&Nat.ble len 1000 then (match fZ P t with
  | some e=>match jQ P e with
   | some sz=>bif Nat.blt 0 sz&&Nat.ble sz 1000&&IE P e then (match tyOf P 24 e with
    | some ty=>bif Nat.beq sz ty.size then (match parts with
     | []=>dQ (H++ [.vec 1 ty [] e]) fun H'=>K (.ref H.length 1) H'
     | _=>match La ty parts 0 with
      | some l=>dQ l fun l'=>Own (K (.seq ty l') H) (dQ (H++ [.vec 1 ty l' e]) fun H'=>K (.ref H.length 1) H')
      | none=>False) else False
    | none=>bif Nat.blt 0 len then (bif Nat.beq sz 1 then (match Lb parts 0 with
     | some l=>bif A9 l then nD l fun l'=>K (.lit 1 l') H else False
     | none=>False) else (match Ld sz parts 0 with
     | some l=>nD l fun l'=>Si sz fun z=>K (.lit z l') H
     | none=>False)) else False) else False
   | none=>False
  | none=>False) else False
def gD (l:List Int):Bx:=l.map fun n=>UInt8.ofNat n.toNat
def BA (P:Program)(H:List HO)(s d:TypeId)(x:SV)(K:SV->Prop):Prop:=
 match P.underlying s,P.underlying d,x with
 | some (.int _),some (.int k),.val (.int _ n)=>chk k n (K (.val (.int k n)))
 | some .string,some .string,.str s=>K (.str s)
 | some (.slice e),some .string,x=>(match P.underlying e,eU true H x with
  | some (.int .u8),.seq (.int .u8) xs=>K (.str (gD xs))
  | _,_=>False)
 | _,_,_=>False
def Lf (H:List HO)(t:Ty)(s:SV):Option (List t.T):=
 match eU true H s with
 | .seq t' ys=>if h:t'=t then some (h ▸ ys) else none
 | .val (.slice none 0 0)=>some []
 | _=>none
def Eh (P:Program)(t:TypeId)(H:List HO)(s x:SV)(K:SV->List HO->Prop):Prop:=
 match fZ P t with
 | some e=>match tyOf P 24 e,P.info? e with
  | some ty,some i=>bif Nat.beq i.size ty.size&&Nat.blt 0 i.bytes&&(match i.zero with | some z=>Nat.beq z.cells.size ty.size | none=>false) then (match Lf H ty x with
   | some ys=>(match s with
    | .val (.slice none 0 0)=>Need (ys.length*i.bytes<=140737488355328) (dQ (H++ [.vec 1 ty ys e]) fun H'=>K (.ref H.length 1) H')
    | .ref nm ver=>match bX H nm with
     | .vec v ty' xs e'=>bif Nat.beq v ver&&Nat.beq e e' then (if h:ty'=ty then
       Need ((length (α:=ty'.T) xs+ys.length)*i.bytes<=140737488355328) (dQ (cA H nm (.vec (v+1) ty (List.append (α:=ty.T) (h ▸ xs) ys) e)) fun H'=>K (.ref nm (v+1)) H') else False) else False
     | _=>False
    | _=>False)
   | none=>False) else False
  | _,_=>False
 | none=>False
def zI (P:Program)(t u:TypeId)(H:List HO)(s x:SV)(K:SV->List HO->Prop):Prop:=
 match P.underlying u,s,x with
 | some (.int _),.val (.slice none 0 0),.val (.int _ n)=>match fZ P t with
  | some e=>match tyOf P 24 e,P.info? e with
   | some ty,some i=>bif Nat.beq i.size ty.size&&Nat.blt 0 i.bytes&&Nat.ble i.bytes 1024&&(match i.zero with | some z=>Nat.beq z.cells.size ty.size | none=>false) then
     Need (1<=n/\n<=137438953472) (dQ (H++ [.vec 1 ty [] e]) fun H'=>K (.wide H.length 1) H') else False
   | _,_=>False
  | none=>False
 | _,_,_=>False
def Sj (bytes n:Nat)(C:Prop):Prop:=bif Nat.ble bytes 8 then Need (n<=17592186044416) C else bif Nat.ble bytes 1024 then Need (n<=137438953472) C else False
theorem Lg {c n:Nat}{C:Prop}(h:Sj c n C):Need (n*c<=140737488355328) C:=by
 unfold Sj at h;cases hb:Nat.ble c 8 with
 | true=>
  rw[hb] at h;have e:=fI hb;have f:=h.ok;exact ⟨bA (eK f e) de,h.go⟩
 | false=>
  rw[hb] at h;simp only[cM] at h;cases hc:Nat.ble c 1024 with
  | true=>
   rw[hc] at h;have e:=fI hc;have f:=h.ok;exact ⟨bA (eK f e) de,h.go⟩
  | false=>rw[hc] at h;cases h
def Wj (H:List HO)(t:Ty)(s:SV)(K:List t.T->Prop):Prop:=
 match eU true H s with
 | .seq t' ys=>if h:t'=t then Hu h ys K else False
 | .val (.slice none 0 0)=>K []
 | _=>False
def Sk (P:Program)(t:TypeId)(H:List HO)(s x:SV)(K:SV->List HO->Prop):Prop:=
 match fZ P t with
 | some e=>match tyOf P 24 e,P.info? e with
  | some ty,some i=>bif Nat.beq i.size ty.size&&Nat.blt 0 i.bytes&&(match i.zero with | some z=>Nat.beq z.cells.size ty.size | none=>false) then Wj H ty x fun ys=>(match s with
    | .val (.slice none 0 0)=>Sj i.bytes ys.length (dQ (H++ [.vec 1 ty ys e]) fun H'=>K (.ref H.length 1) H')
    | .ref nm ver=>match bX H nm with
     | .vec v ty' xs e'=>bif Nat.beq v ver&&Nat.beq e e' then (if h:ty'=ty then Hu h xs fun xs=>
       Sj i.bytes (xs.length+ys.length) (dQ (cA H nm (.vec (v+1) ty (xs++ys) e)) fun H'=>K (.ref nm (v+1)) H') else False) else False
     | _=>False
    | _=>False) else False
  | _,_=>False
 | none=>False
def cP (s:Bx):List Int:=s.map fun b=>(b.toNat:Int)
def Sl (P:Program)(t u:TypeId)(H:List HO)(s x:SV)(K:SV->List HO->Prop):Prop:=
 match P.underlying u,s,x with
 | some .string,.ref nm k,.str bs=>match fZ P t with
  | some e=>match P.info? e,bX H nm with
   | some i,.vec j (.int .u8) xs e'=>bif Nat.beq j k&&Nat.beq e e'&&Nat.beq i.size 1&&Nat.beq i.bytes 1&&(match i.zero with | some (.int .u8 n)=>decide (n=0) | _=>false) then
     Need (length (α:=Int) xs+bs.length<=140737488355328) (dQ (cA H nm (.vec (j+1) (.int .u8) (List.append (α:=Int) xs (cP bs)) e)) fun H'=>K (.ref nm (j+1)) H') else False
   | _,_=>False
  | none=>False
 | _,_,_=>False
def QL:SV->Bool
 | .str _=>true
 | _=>false
def jK {α:Type}(xs:List α)(i:Nat)(zs:List α):List α:=xs.take i++(zs++xs.drop (i+zs.length))
def N4 (H:List HO)(t:Ty)(s:SV)(K:List t.T->Prop):Prop:=
 match s with
 | .part nm k i j z=>(match bX H nm with
  | .vec v t' xs _=>bif Nat.beq v k&&Nat.beq z t.size then (if h:t'=t then Hu h xs fun xs=>K ((xs.take j).drop i) else False) else False
  | _=>False)
 | s=>Wj H t s K
def Sm (P:Program)(H:List HO)(e:TypeId)(nm k i z:Nat)(x:SV)(K:SV->List HO->Prop):Prop:=
 match P.info? e,bX H nm with
 | some inf,.vec v ty xs e'=>bif ((Nat.beq v k&&Nat.beq e e')&&Nat.beq z ty.size)&&(Nat.beq inf.size ty.size&&Nat.blt 0 inf.bytes&&(match inf.zero with | some z=>Nat.beq z.cells.size ty.size | none=>false)) then N4 H ty x fun ys=>
    Need ((i+ys.length)*inf.bytes<=140737488355328) (dQ (cA H nm (.vec (v+1) ty (xs.take i++ys) e')) fun H'=>K (.ref nm (v+1)) H') else False
 | _,_=>False
def Sn (P:Program)(t:TypeId)(H:List HO)(s x:SV)(K:SV->List HO->Prop):Prop:=
 match fZ P t,s with
 | some e,.part nm k 0 i z=>match P.info? e,bX H nm with
  | some inf,.vec v ty xs e'=>bif (Nat.beq v k&&Nat.beq e e')&&(Nat.beq inf.size ty.size&&Nat.beq z ty.size) then N4 H ty x fun ys=>
    Need (i+ys.length<=xs.length) (dQ (cA H nm (.vec v ty (jK xs i ys) e')) fun H'=>K (.part nm v 0 (i+ys.length) z) H') else False
  | _,_=>False
 | some e,.lim nm k i z=>Sm P H e nm k i z x K
 | _,_=>False
def So:SV->Bool
 | .part _ _ _ _ _=>true
 | .lim _ _ _ _=>true
 | _=>false
def Sp (P:Program)(t:TypeId)(H:List HO)(x:SV)(K:List HO->Prop):Prop:=
 match fZ P t,x with
 | some e,.part nm k a b z=>match P.info? e,rA P e,bX H nm with
  | some inf,some zz,.vec v ty xs e'=>bif (Nat.beq v k&&Nat.beq e e')&&(Nat.beq inf.size ty.size&&(Nat.beq z ty.size&&(rX ty zz&&Nat.beq zz.length ty.size))) then (match HZ ty zz with
    | some x0=>dQ (cA H nm (.vec v ty (jK xs a (List.replicate (b-a) x0)) e')) K
    | none=>False) else False
  | _,_,_=>False
 | _,_=>False
def BB (H:List HO)(s:SV)(K:SV->List HO->Prop):Prop:=
 match s with
 | .part nm k 0 j z=>Own (K (.part nm k 0 j z) H) (match bX H nm with
  | .vec v ty xs e=>bif Nat.beq v k&&Nat.beq z ty.size then dQ (cA H nm (.vec (v+1) ty (xs.take j) e)) fun H'=>K (.ref nm (v+1)) H' else False
  | _=>False)
 | s=>K s H
theorem Qe {H:List HO}{t:Ty}{s:SV}{K:List t.T->Prop}(h:Wj H t s K):∃ys,Lf H t s=some ys/\K ys:=by
 unfold Wj at h;unfold Lf;split at h
 ·split at h
  ·rename_i e;rw[pZ] at h;exact ⟨_,by simp[*],h⟩
  cases h
 ·exact ⟨[],by simp[*],h⟩
 cases h
theorem BC {P:Program}{t:TypeId}{H:List HO}{s x:SV}{K:SV->List HO->Prop}(h:Sk P t H s x K):Eh P t H s x K:=by
 unfold Sk at h;unfold Eh;cases he:fZ P t with
 | none=>rw[he] at h;cases h
 | some e=>
  rw[he] at h;simp only at h ⊢;cases h1:tyOf P 24 e with
  | none=>rw[h1] at h;cases h
  | some ty=>
  cases h2:P.info? e with
  | none=>rw[h1,h2] at h;cases h
  | some i=>
  rw[h1,h2] at h;simp only at h ⊢;generalize (Nat.beq i.size ty.size&&Nat.blt 0 i.bytes&&(match i.zero with | some z=>Nat.beq z.cells.size ty.size | none=>false))=c at h ⊢;cases c with
  | false=>cases h
  | true=>
  simp only[bP] at h ⊢;obtain ⟨m,g,f⟩:=Qe h;rw[g];simp only;cases s with
  | val v=>
   cases v with
   | slice a n c=>
    cases a<;>cases n<;>cases c<;>first | exact Lg f | exact f.elim
   | _=>cases f
  | ref nm ver=>
   simp only at f ⊢;cases ho:bX H nm with
   | vec v ty' xs e'=>
    rw[ho] at f;simp only at f ⊢;cases hb2:(Nat.beq v ver&&Nat.beq e e') with
    | false=>rw[hb2] at f;cases f
    | true=>
     rw[hb2] at f;simp only[bP] at f ⊢;by_cases e1:ty'=ty
     ·subst e1;simp only[dite_true] at f ⊢;rw[pZ] at f;exact Lg f
     rw[Gb e1] at f;cases f
   | _=>rw[ho] at f;cases f
  | _=>cases f
def BD (P:Program)(t:TypeId)(H:List HO)(n c:SV)(K:SV->List HO->Prop):Prop:=
 match fZ P t,n,c with
 | some e,.val (.int _ n),.val (.int _ c)=>match tyOf P 24 e,P.info? e,rA P e with
  | some ty,some i,some z=>bif Nat.beq i.size ty.size&&rX ty z&&Nat.beq z.length ty.size then (match HZ ty z with
    | some x0=>Need (0<=n/\n<=c/\c<=140737488355328/\c*(i.bytes:Int)<=140737488355328) (dQ (H++ [.vec 1 ty (List.replicate n.toNat x0) e]) fun H'=>K (.ref H.length 1) H')
    | none=>False) else False
  | _,_,_=>False
 | _,_,_=>False
def plain:SV->Bool
 | .val _=>true
 | .bl _ _=>true
 | .str _=>true
 | .ifc=>true
 | .num _=>true
 | .agg l=>plainL l
 | .tup l=>plainL l
 | _=>false
where plainL:List SV->Bool
 | []=>true
 | x::r=>plain x&&plainL r
def IF (pos:Nat)(same:Bool)(cl:List SV->HO->(SV->HO->Prop)->Prop)(args:List SV)(H:List HO)(K:SV->List HO->Prop):Prop:=
 match args.getD pos .any with
 | .ref nm ver=>match bX H nm with
  | .vec v t xs e=>bif Nat.beq v ver&&(t.flat || bare.bareL (args.set pos .any)) then
    nD ((args.set pos .any).map (yP true (cA H nm .dead))) fun as=>bif bare.bareL as then cl as (.vec 1 t xs e) fun r o=>Co r fun r=>(match o with
     | .vec _ t' ys e'=>bif Nat.beq e e' then (if h:t'=t then Hu h ys fun ys=>dQ (cA H nm (.vec (bif same then v else v+1) t ys e)) fun H'=>(match r with
       | .ref 0 1=>K (.ref nm (bif same then v else v+1)) H'
       | r=>bif plain r then K r H' else False) else False) else False
     | _=>False) else False
   else False
  | _=>False
 | _=>False
def DG (n:Nat):SV->SV
 | .ref 0 1=>.ref n 1
 | s=>s
def SZ (n:Nat):SV->SV
 | .tup l=>.tup (l.map (DG n))
 | s=>DG n s
def FV:SV->Bool
 | .ref 0 1=>true
 | s=>plain s
def Ei:SV->Bool
 | .tup l=>l.all FV
 | s=>FV s
def IG (cl:List SV->(SV->HO->Prop)->Prop)(args:List SV)(H:List HO)(K:SV->List HO->Prop):Prop:=
 nD (args.map (yP true H)) fun as=>bif bare.bareL as then cl as fun r o=>Co r fun r=>(match o with
  | .vec _ t ys e=>bif (t.flat || bare.bareL args)&&Ei r then dQ (H++ [.vec 1 t ys e]) fun H'=>Co (SZ H.length r) fun r'=>K r' H' else False
  | _=>False) else False
def Sq (fresh:Bool)(cl:List SV->(SV->Prop)->Prop)(args:List SV)(H:List HO)(K:SV->List HO->Prop):Prop:=
 bif fresh then nD (args.map (yP true H)) fun as=>bif bare.bareL as then cl as fun r=>Co r fun r'=>bif bare r' then K r' H else False else False
 else dQ (jO H args) fun H'=>nD (args.map (yP false H')) fun as=>bif bare.bareL as then cl as fun r=>Co r fun r'=>bif bare r' then K r' H' else False else False
def QM:SV->Bool
 | .ref _ _=>true
 | _=>false
def BE (Γ:List Con)(f:FuncId)(args:List SV)(H:List HO)(K:SV->List HO->Prop):Prop:=
 match Ef Γ f with
 | some c=>match c.hp,c.lin,c.own with
  | some cl,_,_=>cl args H fun r H'=>Co r fun r=>dQ H' fun H'=>K r H'
  | none,some (pos,same,cl),_=>bif QM (args.getD pos .any) then IF pos same cl args H K else Sq c.fresh c.cl args H K
  | none,none,some cl=>IG cl args H K
  | none,none,none=>Sq c.fresh c.cl args H K
 | none=>False
def wD (t:Ty)(xs:List t.T)(lo hi:Option SV)(K:SV->Prop):Prop:=
 match lo,hi with
 | none,none=>K (.seq t xs)
 | some (.val (.int _ i)),none=>Need (0<=i/\i<=xs.length) (Ix i fun i=>K (.seq t (xs.drop i)))
 | none,some (.val (.int _ j))=>Need (0<=j/\j<=xs.length) (Ix j fun j=>K (.seq t (xs.take j)))
 | some (.val (.int _ i)),some (.val (.int _ j))=>Need (0<=i/\i<=j/\j<=xs.length) (Ix i fun i=>Ix j fun j=>K (.seq t ((xs.take j).drop i)))
 | _,_=>False
def bJ (s:Bx)(i:Nat):Int:=((s.getD i 0).toNat:Int)
def Lh (s:Bx)(lo hi:Option SV)(K:SV->Prop):Prop:=
 match lo,hi with
 | none,none=>K (.str s)
 | some (.val (.int _ i)),none=>Need (0<=i/\i<=s.length) (Ix i fun i=>K (.str (s.drop i)))
 | none,some (.val (.int _ j))=>Need (0<=j/\j<=s.length) (Ix j fun j=>K (.str (s.take j)))
 | some (.val (.int _ i)),some (.val (.int _ j))=>Need (0<=i/\i<=j/\j<=s.length) (Ix i fun i=>Ix j fun j=>K (.str ((s.take j).drop i)))
 | _,_=>False
def DH (n:Nat)(lo hi:Option SV)(K:Nat->Nat->Prop):Prop:=
 match lo,hi with
 | none,none=>K 0 n
 | some (.val (.int _ i)),none=>Need (0<=i/\i<=n) (Ix i fun i=>K i n)
 | none,some (.val (.int _ j))=>Need (0<=j/\j<=n) (Ix j fun j=>K 0 j)
 | some (.val (.int _ i)),some (.val (.int _ j))=>Need (0<=i/\i<=j/\j<=n) (Ix i fun i=>Ix j fun j=>K i j)
 | _,_=>False
def DI (j n:Nat)(lo hi:Option SV)(K:Nat->Nat->Prop):Prop:=
 match lo,hi with
 | some (.val (.int _ a)),some (.val (.int _ b))=>Need (0<=a/\a<=b/\b<=n) (Ix a fun a=>Ix b fun b=>K a b)
 | _,_=>False
def IH (P:Program)(t:TypeId)(H:List HO)(x y:SV)(K:SV->List HO->Prop):Prop:=False
def Li (P:Program)(t:TypeId)(H:List HO)(s:SV)(lo hi mx:Option SV)(K:SV->List HO->Prop):Prop:=
 match fZ P t,s,lo,hi,mx with
 | some e,.ref nm ver,some (.val (.int _ a)),some (.val (.int _ b)),some (.val (.int _ c))=>match jQ P e,bX H nm with
  | some _,.vec v _ xs _=>bif Nat.beq v ver then Need (0<=a/\a<=b/\b<=c/\c<=xs.length) (K .any H) else False
  | _,_=>False
 | some e,.ref nm ver,none,some (.val (.int _ a)),some (.val (.int _ b))=>match jQ P e,bX H nm with
  | some sz,.vec v _ xs _=>bif Nat.beq v ver then Need (0<=a/\a=b/\a<=xs.length) (Ix a fun i=>K (.lim nm v i sz) H) else False
  | _,_=>False
 | _,_,_,_,_=>False
def Sr (P:Program)(t:TypeId)(H:List HO)(s:SV)(lo hi:Option SV)(K:SV->List HO->Prop):Prop:=
 match P.underlying t with
 | some (.slice e)=>match jQ P e with
  | some sz=>match s with
   | .seq ty xs=>bif Nat.beq sz ty.size then wD ty xs lo hi fun v=>K v H else False
   | .val (.slice none 0 0)=>match lo,hi with
    | none,some (.val (.int _ j))=>Need (0<=j/\j<=0) (K (.val (.slice none 0 0)) H)
    | _,_=>match tyOf P 24 e with
     | some ty=>bif Nat.beq sz ty.size then wD ty [] lo hi fun v=>K v H else False
     | none=>False
   | .part nm ver 0 j z=>(match bX H nm with
    | .vec v ty xs _=>bif Nat.beq v ver&&(Nat.beq sz ty.size&&Nat.beq z ty.size) then DI j xs.length lo hi fun a b=>K (.part nm v a b z) H else False
    | _=>False)
   | .wide nm ver=>match lo,hi with
    | none,some (.val (.int _ j))=>(match bX H nm with
     | .vec v ty [] _=>bif Nat.beq v ver&&Nat.beq sz ty.size then Need (0<=j/\j<=0) (K (.ref nm ver) H) else False
     | _=>False)
    | _,_=>False
   | .ref nm ver=>Own (Own (dQ (Pd H (.ref nm ver)) fun H'=>match eU false H' (.ref nm ver) with
    | .seq ty xs=>bif Nat.beq sz ty.size then wD ty xs lo hi fun v=>K v H' else False
    | _=>False) (match lo,hi with
     | none,some (.val (.int _ j))=>(match bX H nm with
      | .vec v ty xs e'=>bif Nat.beq v ver&&Nat.beq sz ty.size then Need (0<=j/\j<=xs.length) (Ix j fun j=>dQ (cA H nm (.vec (v+1) ty (xs.take j) e')) fun H'=>K (.ref nm (v+1)) H') else False
      | _=>False)
     | _,_=>False)) (match bX H nm with
      | .vec v ty xs _=>bif Nat.beq v ver&&Nat.beq sz ty.size then DH xs.length lo hi fun i j=>K (.part nm v i j sz) H else False
      | _=>False)
   | _=>False
  | none=>False
 | some .string=>match s with
  | .str s=>Lh s lo hi fun v=>K v H
  | _=>False
 | _=>False
def DJ (P:Program)(t:TypeId)(x:Operand):Option (Ty × TypeId):=
 match x with
 | .const (.slice none 0 0)=>match fZ P t with
  | some e=>match tyOf P 24 e with
   | some ty=>some (ty,e)
   | none=>none
  | none=>none
 | _=>none
def rowTy (P:Program)(e:TypeId):Option (Ty × TypeId):=
 match fZ P e with
 | some ei=>match tyOf P 24 ei with
  | some t=>bif t.flat then some (t,ei) else none
  | none=>none
 | none=>none
def DK (P:Program)(t:TypeId)(n c:SV)(K:Int->Ty->TypeId->TypeId->Prop):Prop:=False
def Ss (P:Program)(t:TypeId):Bool:=match fZ P t with
 | some e=>match rowTy P e with
  | some _=>true
  | none=>false
 | none=>false
def Pe (H:List HO)(s:SV):Bool:=match s with
 | .ref nm _=>(match bX H nm with
  | .vv _ _ _ _ _ _ _=>true
  | _=>false)
 | .vptr nm _ _ _ _=>(match bX H nm with
  | .vv _ _ _ _ _ _ _=>true
  | _=>false)
 | .sub _ _ _ _=>true
 | _=>false
def II (P:Program)(t:TypeId)(H:List HO)(x i:SV)(K:SV->Prop):Prop:=False
def QN (P:Program)(t:TypeId)(H:List HO)(x:SV)(K:SV->Prop):Prop:=False
def DM (P:Program)(t:TypeId)(H:List HO)(x y:SV)(K:SV->List HO->Prop):Prop:=False
def IJ (P:Program)(t:TypeId)(H:List HO)(x y:SV)(K:List HO->Prop):Prop:=False
def VJ (H:List HO)(x:SV)(K:SV->Prop):Prop:=False
structure NextVC (fin:Prop) (more:Prop):Prop where
 fin:fin
 more:more
structure Has {α:Type} (p:α->Prop) (C:α->Prop):Prop where
 ex:∃e,p e/\C e
theorem Alt.h {α:Type}{p C:α->Prop}{D:Prop}{r:α}(k:C r)(h:p r:=by first | with_reducible assumption | assumption):Alt (Has p C) D:=.l ⟨⟨r,h,k⟩⟩
def IK (P:Program)(f:Field)(off:Nat)(k:IntKind):Bool:=Nat.beq f.offset off&&(match P.underlying f.type with
 | some (.int q)=>decide (q=k)
 | _=>false)
structure KeyOK (P:Program) (kt:TypeId):Prop where
 key:P.keyTypeAt 2 kt=true
 tile:P.tiled 2 kt=true
 typ:P.keyType kt=true
 cells:P.cellsOf kt=2
 types:0<P.types.size
def Qf (P:Program)(t:TypeId)(H:List HO)(K:SV->List HO->Prop):Prop:=False
def Wk (P:Program)(t:TypeId)(ok:Bool)(H:List HO)(x i:SV)(K:SV->Prop):Prop:=False
def Hw (P:Program)(t:TypeId)(H:List HO)(x i y:SV)(K:List HO->Prop):Prop:=False
def Lj (P:Program)(t:TypeId)(H:List HO)(x i:SV)(K:SV->List HO->Prop):Prop:=False
def Ej (H:List HO)(x s y:SV)(K:List HO->Prop):Prop:=False
def Wl (P:Program)(t:TypeId)(H:List HO)(x i:SV)(K:List HO->Prop):Prop:=False
def DN (P:Program)(t:TypeId)(H:List HO)(x:SV)(K:SV->List HO->Prop):Prop:=False
def IL (H:List HO)(x:SV)(K:SV->List HO->Prop):Prop:=False
def DO (H:List HO)(x:SV)(K:SV->Prop):Prop:=False
def Wm (H:List HO)(x:SV)(K:SV->Prop):Prop:=False
def Lk (P:Program)(t:TypeId)(op:BinOp)(k k':IntKind)(a b c d:Int)(K:SV->Prop):Prop:=
 match P.underlying t with
 | some (.struct fs)=>match fs.toList with
  | [f,g]=>bif IK P f 0 k&&IK P g 1 k' then Need (f.name≠ "_" ∧g.name≠ "_" ∧P.stoodInHeld t=false) (match op with
   | .eql=>K (.bl (a=c/\b=d) inferInstance)
   | .neq=>K (.bl (¬(a=c/\b=d)) inferInstance)
   | _=>False) else False
  | _=>False
 | _=>False
def IM:List SV->(List (Bx)->Prop)->Prop
 | [],K=>K []
 | .str s::r,K=>IM r fun xs=>K (s::xs)
 | _,_=>False
def Su (P:Program)(t:TypeId):Bool:=match P.underlying t with
 | some .string=>true
 | _=>false
def Qg (P:Program):List Field->Nat->Bool
 | [],_=>true
 | f::r,off=>Nat.beq f.offset off&&Su P f.type&&Qg P r (off+1)
def Wn:List Field->Prop
 | []=>True
 | f::r=>f.name≠ "_" ∧Wn r
def Sv (P:Program)(t:TypeId)(op:BinOp)(l m:List SV)(K:SV->Prop):Prop:=
 match P.underlying t with
 | some (.struct fs)=>IM l fun xs=>IM m fun ys=>bif Qg P fs.toList 0&&Nat.beq fs.toList.length xs.length&&Nat.beq fs.toList.length ys.length then Need (Wn fs.toList/\P.stoodInHeld t=false) (match op with
   | .eql=>K (.bl (xs=ys) inferInstance)
   | .neq=>K (.bl (¬xs=ys) inferInstance)
   | _=>False) else False
 | _=>False
def Sw (P:Program)(f:Field)(off:Nat)(a b:SV)(K:(p:Prop)->Decidable p->Prop):Prop:=
 match a,b with
 | .val (.int k x),.val (.int k' y)=>bif decide (k=k')&&IK P f off k then K (x=y) inferInstance else False
 | .str x,.str y=>bif Nat.beq f.offset off&&Su P f.type then K (x=y) inferInstance else False
 | .val (.bool x),.val (.bool y)=>bif Nat.beq f.offset off&&rC P f.type then K (x=y) inferInstance else False
 | .bl p _,.bl q _=>bif Nat.beq f.offset off&&rC P f.type then K (p↔q) inferInstance else False
 | .bl p _,.val (.bool y)=>bif Nat.beq f.offset off&&rC P f.type then K (p↔y=true) inferInstance else False
 | .val (.bool x),.bl q _=>bif Nat.beq f.offset off&&rC P f.type then K (x=true↔q) inferInstance else False
 | _,_=>False
def xL (P:Program):List Field->Nat->List SV->List SV->((p:Prop)->Decidable p->Prop)->Prop
 | [],_,[],[],K=>K True inferInstance
 | f::fs,off,a::l,b::m,K=>Sw P f off a b fun p d=>xL P fs (off+1) l m fun q e=>K (p/\q) (@instDecidableAnd p q d e)
 | _,_,_,_,_=>False
def Sx (P:Program)(t:TypeId)(op:BinOp)(l m:List SV)(K:SV->Prop):Prop:=
 match P.underlying t with
 | some (.struct fs)=>xL P fs.toList 0 l m fun p d=>Need (Wn fs.toList/\P.stoodInHeld t=false) (match op with
   | .eql=>K (.bl p d)
   | .neq=>K (.bl (¬p) (@instDecidableNot p d))
   | _=>False)
 | _=>False
def Wo (P:Program)(t:TypeId):Option (Ty × TypeId):=
 match DJ P t (.const (.slice none 0 0)),rA P t with
 | some p,some [.val (.slice none 0 0)]=>some p
 | _,_=>none
def Sy:SV->Bool
 | .agg l=>l.any fun s=>match s with
  | .val (.slice none 0 0)=>true
  | _=>false
 | _=>false
def IN:SV->Bool
 | .val (.slice none 0 0)=>true
 | _=>false
def nilRef (H:List HO)(nm off:Nat)(t:Ty)(e:TypeId)(K:List HO->Prop):Prop:=
 match bX H nm with
 | .cells l ce=>match l.getD off .any with
  | .val (.slice none 0 0)=>bif Nat.blt off l.length then dQ (l.set off (.ref H.length 1)) fun l'=>dQ (cA (H++ [.vec 1 t [] e]) nm (.cells l' ce)) K else False
  | _=>False
 | _=>False
structure NilRef (H:List HO) (nm:Nat) (K:List HO->Prop):Prop where
 ex:∃off t e,nilRef H nm off t e K
def IP:SV->Nat
 | .ptr n _=>n
 | _=>0
def BF:List (Nat × SV)->Bool
 | []=>false
 | (_,.ref _ _):: _=>true
 | _::r=>BF r
def op1 (P:Program)(Γ:List Con)(o:Oper)(l:List (Nat × SV))(H:List HO)(K:SV->List HO->Prop):Prop:=
 match o.op with
 | .move x=>Co (ev l x) fun v=>K v H
 | .assign x=>match DJ P o.type x with
  | some (ty,e)=>dQ (H++ [.vec 1 ty [] e]) fun H'=>K (.ref H.length 1) H'
  | none=>Co (ev l x) fun v=>bif So v then BB H v K else K v H
 | .pick c a b=>A0 (ev l a) (ev l b) (ev l c) fun v=>K v H
 | .binOp op t x y _=>match ev l x,ev l y with
  | .val (.int k a),.val (.int k' b)=>bif DC op then Sc op k a b fun v=>K v H else bif decide (k=k') then H9 op k a b fun v=>K v H else False
  | .seq _ xs,.val (.slice none 0 0)=>bif Be P t then Eg op (xs= []) fun v=>K v H else False
  | .ref nm ver,.val (.slice none 0 0)=>(match bX H nm with
   | .vec v _ xs _=>bif Be P t&&Nat.beq v ver then Eg op (xs= []) fun v=>K v H else False
   | .fro v _ xs=>bif Be P t&&Nat.beq v ver then Eg op (xs= []) fun v=>K v H else False
   | _=>False)
  | .val (.slice none 0 0),.val (.slice none 0 0)=>bif Be P t then Eg op True fun v=>K v H else False
  | .str s,.str s'=>IC op s s' fun v=>K v H
  | .val (.bool a),.val (.bool b)=>bif rC P t then Gd op (a=true) (b=true) fun v=>K v H else False
  | .bl p _,.val (.bool b)=>bif rC P t then Gd op p (b=true) fun v=>K v H else False
  | .val (.bool a),.bl q _=>bif rC P t then Gd op (a=true) q fun v=>K v H else False
  | .bl p _,.bl q _=>bif rC P t then Gd op p q fun v=>K v H else False
  | .agg [.val (.int k a),.val (.int k' b)],.agg [.val (.int j c),.val (.int j' d)]=>bif decide (k=j)&&decide (k'=j') then Lk P t op k k' a b c d fun v=>K v H else False
  | .agg (.str a::l'),.agg (.str b::m)=>Sv P t op (.str a::l') (.str b::m) fun v=>K v H
  | .ifc,.val .nilIface=>bif xJ P t&&Kb y then Eg op True fun v=>K v H else False
  | .val .nilIface,.val .nilIface=>bif xJ P t&&Kb y then SX op fun v=>K v H else False
  | .num k,.val (.int k' _)=>bif decide (k=k') then IA op k fun v=>K v H else False
  | .agg l',.agg m=>Sx P t op l' m fun v=>K v H
  | _,_=>False
 | .unOp .not _ x=>match ev l x with
  | .val (.bool true)=>K (.val (.bool false)) H
  | .val (.bool false)=>K (.val (.bool true)) H
  | .bl p _=>K (.bl (¬p) inferInstance) H
  | _=>False
 | .unOp .neg _ x=>match ev l x with
  | .val (.int k a)=>chk k (-a) (K (.val (.int k (-a))) H)
  | _=>False
 | .convert s d x=>BA P H s d (ev l x) fun v=>K v H
 | .alloc t=>match Wo P t with
  | some (ty,e)=>dQ (H++ [.vec 1 ty [] e]) fun H'=>xK H' (.cells [.ref H.length 1] t) K
  | none=>match rA P t with
   | some z=>dQ z fun z'=>bif Sy (.agg z') then xK H (.cells z' t) fun s H'=>Own (K s H') (NilRef H' (IP s) fun H''=>K s H'') else xK H (.cells z' t) K
   | none=>False
 | .nilCheck x=>match ev l x with
  | .ptr nm off=>bif Kw H (.ptr nm off) then K (.ptr nm off) H else False
  | .wcel n=>K (.wcel n) H
  | _=>False
 | .box t x=>bif Kv H (ev l x) then dQ (dC (ev l x)) fun z=>bif IN (ev l x) then xK H (.cells z t) fun s H'=>Own (K s H') (NilRef H' (IP s) fun H''=>K s H'') else xK H (.cells z t) K else False
 | .build t ps=>bif vG H (ps.toList.map fun p=>(p.1,ev l p.2)) then (bif DF P t then A8 P t (ps.toList.map fun p=>(p.1,ev l p.2)) fun v=>K v H else Sh P t (ps.toList.map fun p=>(p.1,ev l p.2)) fun v=>K v H) else False
 | .buildSlice t n ps=>bif BF (ps.toList.map fun p=>(p.1,ev l p.2)) then dQ (FT H (ps.toList.map fun p=>ev l p.2)) fun H'=>bif vG H' (ps.toList.map fun p=>(p.1,eU false H' (ev l p.2))) then tJ P t n (ps.toList.map fun p=>(p.1,eU false H' (ev l p.2))) H' K else False
  else bif vG H (ps.toList.map fun p=>(p.1,ev l p.2)) then tJ P t n (ps.toList.map fun p=>(p.1,ev l p.2)) H K else False
 | .load t x=>bif Pe H (ev l x) then QN P t H (ev l x) fun v=>K v H else A2 P t H (ev l x) fun v=>K v H
 | .store t a x=>bif Pe H (ev l a) then IJ P t H (ev l a) (ev l x) fun H'=>K .any H' else bif Sy (ev l x) then Kc P t H (ev l a) (ev l x) fun H'=>Own (K .any H') (NilRef H' (IP (ev l a)) fun H''=>K .any H'') else Kc P t H (ev l a) (ev l x) fun H'=>K .any H'
 | .fieldAddr t x f=>match ev l x,Bf P t f with
  | s,some (fo,sz,_)=>bif Kw H s&&Nat.blt 0 sz then (match s with
   | .ptr nm off=>K (.ptr nm (off+fo)) H
   | .elem ty xs i off=>K (.elem ty xs i (off+fo)) H
   | .vptr nm ver i z off=>K (.vptr nm ver i z (off+fo)) H
   | .lelem l off=>K (.lelem l (off+fo)) H
   | .wcel n=>bif Nat.beq fo 0 then K (.wcel n) H else False
   | _=>False) else False
  | _,_=>False
 | .field t x f=>match ev l x,Bf P t f with
  | .agg cs,some (fo,sz,ag)=>oI ag fo sz cs fun v=>K v H
  | _,_=>False
 | .indexAddr t x i=>bif Pe H (ev l x) then II P t H (ev l x) (ev l i) fun v=>K v H else bif DF P t then A7 P t H (ev l x) (ev l i) fun v=>K v H else Sf P t H (ev l x) (ev l i) fun v=>K v H
 | .slice t x lo hi none=>Sr P t H (ev l x) (lo.map (ev l)) (hi.map (ev l)) K
 | .slice t x lo hi (some m)=>Li P t H (ev l x) (lo.map (ev l)) (hi.map (ev l)) (some (ev l m)) K
 | .index t x i=>match P.underlying t,ev l x,ev l i with
  | some (.array n e),.agg cs,.val (.int _ j)=>(match Gc P e,jQ P e with
   | some ag,some sz=>Need (0<=j/\j<n) (Ix j fun j=>oI ag (j*sz) sz cs fun v=>K v H)
   | _,_=>False)
  | some .string,.str s,.val (.int _ n)=>Need (0<=n/\n<s.length) (Ix n fun i=>Giv (0<=bJ s i/\bJ s i<=255) (K (.val (.int .u8 (bJ s i))) H))
  | _,_,_=>False
 | .extract x i=>match ev l x with
  | .tup vs=>bif Nat.blt i vs.length then Co (vs.getD i .any) fun v=>K v H else False
  | _=>False
 | .makeFunc (.func f) a b=>nD (a.toList.map (ev l)) fun as=>nD (b.toList.map (ev l)) fun bs=>K (.clo f as bs) H
 | .makeSlice t n c=>bif Ss P t then DK P t (ev l n) (ev l c) fun n ty e ei=>dQ (H++ [.vv 1 0 ty (List.replicate n.toNat []) none e ei]) fun H'=>K (.ref H.length 1) H' else BD P t H (ev l n) (ev l c) K
 | .call c=>match c.callee with
  | .builtin .len=>match c.args.toList with
   | [x]=>match c.argTypes[0]? with
    | some t=>match P.underlying t,ev l x with
     | some (.slice _),s=>(match s with
      | .str _=>False
      | s=>bif Pe H s then VJ H s fun v=>K v H else DE H s fun v=>K v H)
     | some .string,.str s=>DE H (.str s) fun v=>K v H
     | some (.map _ _),s=>Wm H s fun v=>K v H
     | _,_=>False
    | none=>False
   | _=>False
  | .builtin .cap=>match c.args.toList with
   | [x]=>match c.argTypes[0]? with
    | some t=>match P.underlying t,ev l x with
     | some (.slice _),.val (.slice none 0 0)=>K (.val (.int .i64 0)) H
     | _,_=>False
    | none=>False
   | _=>False
  | .builtin .append=>match c.args.toList,c.argTypes.toList with
   | [s,x],[t,u]=>bif Nat.beq t u then (bif Pe H (ev l s) then DM P t H (ev l s) (ev l x) K else bif So (ev l s) then Sn P t H (ev l s) (ev l x) K else Sk P t H (ev l s) (ev l x) K) else bif QL (ev l x) then Sl P t u H (ev l s) (ev l x) K else zI P t u H (ev l s) (ev l x) K
   | _,_=>False
  | .builtin .copy=>match c.args.toList,c.argTypes.toList with
   | [x,y],[t,_]=>IH P t H (ev l x) (ev l y) K
   | _,_=>False
  | .builtin .clear=>match c.args.toList,c.argTypes.toList with
   | [x],[t]=>Sp P t H (ev l x) fun H'=>K (.tup []) H'
   | _,_=>False
  | .builtin .delete=>match c.args.toList,c.argTypes[0]? with
   | [x,y],some t=>Wl P t H (ev l x) (ev l y) fun H'=>K (.tup []) H'
   | _,_=>False
  | .builtin .max=>match c.args.toList.map (ev l) with
   | .val (.int k a)::r=>Ky k a r fun v=>K v H
   | _=>False
  | .builtin .min=>match c.args.toList.map (ev l) with
   | .val (.int k a)::r=>Kz k a r fun v=>K v H
   | _=>False
  | .value f=>match ev l f with
   | .yld _=>match bX H 0 with
    | .yst (some k) n items=>nD (c.args.toList.map fun x=>N3 H (ev l x)) fun as=>Need (k<n) (Need (ent.entL as (items k))
      (Two (K (.val (.bool true)) (cA H 0 (.yst (some (k+1)) n items))) (K (.val (.bool false)) (cA H 0 (.yst none n items)))))
    | _=>False
   | .clo g first caps=>BE Γ g (first++c.args.toList.map (ev l)++caps) H K
   | _=>False
  | _=>False
 | .makeMap t none=>Qf P t H K
 | .lookup t m x ok=>Wk P t ok H (ev l m) (ev l x) fun v=>K v H
 | .mapUpdate t m x y=>Hw P t H (ev l m) (ev l x) (ev l y) fun H'=>K .any H'
 | .mapEntry t m x=>Lj P t H (ev l m) (ev l x) K
 | .entryStore _ m s y=>Ej H (ev l m) (ev l s) (ev l y) fun H'=>K .any H'
 | .range t x=>DN P t H (ev l x) K
 | .next x false=>IL H (ev l x) K
 | .entry x=>DO H (ev l x) fun v=>K v H
 | _=>False
def vT (ops:List Oper)(l:List (Nat × SV))(g:Option (Nat × Bool))(yes no:List (Nat × SV)->Prop):Prop:=
 match g with
 | none=>yes l
 | some (j,want)=>match (ops[j]?).bind (·.dst) with
  | none=>False
  | some t=>match look l t with
   | .val (.bool true)=>match want with | true=>yes l | false=>no l
   | .val (.bool false)=>match want with | true=>no l | false=>yes l
   | .bl p _=>match want with
    | true=>Br p (dQ (put l t (.val (.bool true))) yes) (dQ (put l t (.val (.bool false))) no)
    | false=>Br p (dQ (put l t (.val (.bool true))) no) (dQ (put l t (.val (.bool false))) yes)
   | .tup []=>no l
   | _=>False
def oQ (P:Program)(Γ:List Con)(N:Nat)(all ops:List Oper):List (Nat × SV)->List HO->(List (Nat × SV)->List HO->Prop)->Prop:=
 List.rec (motive:=fun _=>List (Nat × SV)->List HO->(List (Nat × SV)->List HO->Prop)->Prop)
  (fun l H K=>K l H)
  (fun o _ ih l H K=>vT all l o.guard
   (fun l=>op1 P Γ o l H fun v H'=>wC N l o.dst v fun l'=>ih l' H' K)
   (fun l=>wC N l o.dst (.tup []) fun l'=>ih l' H K)) ops
theorem Ek (P:Program)(Γ:List Con)(N:Nat)(c:List Oper)(o:Oper)(r:List Oper)(l:List (Nat × SV))(H:List HO)(K:List (Nat × SV)->List HO->Prop):oQ P Γ N c (o::r) l H K=
  vT c l o.guard
   (fun l=>op1 P Γ o l H fun v H'=>wC N l o.dst v fun e=>oQ P Γ N c r e H' K)
   (fun l=>wC N l o.dst (.tup []) fun e=>oQ P Γ N c r e H K):=rfl
structure Pin (p:SV->Prop):Prop where
 ex:∃s,p s
structure Pinned (e e' C:Prop):Prop where
 val:e
 heap:e'
 go:C
def kN (l:List (Nat × SV)):List Operand->List (Nat × SV)
 | []=>[]
 | .tmp t::r=>(t,look l t)::kN l r
 | _::r=>kN l r
def Hy (P:Program)(Γ:List Con)(N:Nat)(all ops:List Oper):List (Nat × SV)->List HO->(List (Nat × SV)->Prop)->Prop:=
 List.rec (motive:=fun _=>List (Nat × SV)->List HO->(List (Nat × SV)->Prop)->Prop)
  (fun l _ K=>K l)
  (fun o _ ih l H K=>vT all l o.guard
   (fun l=>Pin fun s=>dQ (kN l o.op.operands.toList) fun l₁=>op1 P Γ o l₁ H fun s' H'=>Pinned (s'=s) (H'=H) (wC N l o.dst s fun l'=>ih l' H K))
   (fun l=>wC N l o.dst (.tup []) fun l'=>ih l' H K)) ops
theorem BG (P:Program)(Γ:List Con)(N:Nat)(c:List Oper)(o:Oper)(r:List Oper)(l:List (Nat × SV))(H:List HO)(K:List (Nat × SV)->Prop):Hy P Γ N c (o::r) l H K=
  vT c l o.guard
   (fun l=>Pin fun s=>dQ (kN l o.op.operands.toList) fun l₁=>op1 P Γ o l₁ H fun s' H'=>Pinned (s'=s) (H'=H) (wC N l o.dst s fun e=>Hy P Γ N c r e H K))
   (fun l=>wC N l o.dst (.tup []) fun e=>Hy P Γ N c r e H K):=rfl
def Ll (o:Oper)(t:Nat):Bool:=match o.dst with
 | some u=>Nat.beq u t
 | none=>false
def waits (o:Oper)(j:Nat):Bool:=o.after.toList.any fun e=>Region.binds .any e&&Nat.beq e.on j
def DP (ops:List Oper)(j:Nat):Option Nat:=(ops[j]?).bind (·.dst)
def Ta (ops:List Oper)(m i:Nat)(o:Oper)(t:Nat):Bool:=(List.range m).all fun j=>match ops[j]? with
 | some o'=> !Ll o' t || (waits o j&&Nat.blt j i || waits o' i)
 | none=>true
def Pf (ops:List Oper)(m i:Nat)(o:Oper):Bool:=
 (o.op.operands.toList.all fun x=>match x with
  | .tmp t=>Ta ops m i o t
  | _=>true)&&
 ((match o.guard with
   | some (j,_)=>match DP ops j with
    | some t=>Ta ops m i o t
    | none=>true
   | none=>true)&&
 (match o.dst with
  | some t=>(List.range m).all fun j=>Nat.beq j i || (match ops[j]? with
   | some o'=> !Ll o' t
   | none=>true)
  | none=>true))
def Wq (i:Nat)(o:Oper):Bool:=o.after.toList.all fun e=> !Region.binds .any e || Nat.blt e.on i
def IQ (x:Operand)(o:Oper):Bool:=match x with
 | .tmp u=>Ll o u
 | _=>false
def BH (ops:List Oper)(o:Oper)(t:Nat):Bool:=(o.op.operands.toList.any fun y=>match y with
  | .tmp u=>Nat.beq u t
  | _=>false) || (match o.guard with
  | some (j,_)=>(match DP ops j with
   | some u=>Nat.beq u t
   | none=>false)
  | none=>false)
def IR (o:Oper):Bool:=match o.op with
 | .select _ _=>false
 | .defer _=>false
 | _=>true
def pureArg:Op->Option Operand
 | .move x=>some x
 | .extract x _=>some x
 | _=>none
def isExt:Op->Bool
 | .extract _ _=>true
 | _=>false
def Tb (ext:Bool)(ops:List Oper)(i:Nat):Bool:=match ops[i]? with
 | some o=>(match pureArg o.op,o.guard,o.dst with
  | some x,none,some t=>(bif isExt o.op then ext else o.after.toList.all fun e=> !Region.binds .any e)&&(List.range ops.length).all fun j=>match ops[j]? with
   | some o'=>(Nat.beq j i || !Ll o' t)&&((!IQ x o' || waits o j)&&((Nat.beq j i || (!BH ops o' t || waits o' i))&&IR o'))
   | none=>true
  | _,_,_=>false)
 | none=>false
def vU (ops:List Oper)(i:Nat):Bool:=Tb true ops i
def zJ (ms:List Nat)(o:Oper):Nat:=o.after.toList.foldl (fun acc e=>bif Region.binds .any e then Nat.lor (Nat.lor acc (Nat.shiftLeft 1 e.on)) (ms.getD e.on 0) else acc) 0
def oW:List Oper->List Nat->List Nat
 | [],ms=>ms
 | o::r,ms=>oW r (ms++ [zJ ms o])
def Gf {β:Sort _}:List Oper->List Nat->(List Nat->β)->β
 | [],ms,k=>k ms
 | o::r,ms,k=>Si (zJ ms o) fun m=>dQ (ms++ [m]) fun ms'=>Gf r ms' k
theorem Bh {β:Sort _}:∀(c:List Oper) (e:List Nat) (k:List Nat->β),Gf c e k=k (oW c e)
 | [],_,_=>rfl
 | o::r,e,k=>by simp only[Gf,oW];rw[Qd,cD,Bh r]
def oJ (ms:List Nat)(i j:Nat):Bool:=Nat.testBit (ms.getD i 0) j
def Tc (ms:List Nat)(ext:Bool)(ops:List Oper):Nat->Nat
 | 0=>0
 | k+1=>match ops[k]? with
  | some _=>bif (List.range k).all (fun j=>oJ ms k j || Tb ext ops j) then Tc ms ext ops k else k+1
  | none=>0
def IT (l:List Oper):Bool:=l.any fun o=>match o.op with
 | .store _ (.tmp t) _=>l.any fun o'=>match o'.op with
  | .alloc _=>Ll o' t
  | _=>false
 | _=>false
def Td (ops:List Oper)(n:Nat):Nat:=Gf ops [] fun ms=>Si (Tc ms false ops n) fun m=>bif IT (ops.take m) then Tc ms true ops n else m
def Te (ops:List Oper)(p:Nat->Oper->Bool)(n:Nat):Bool:=(List.range n).all fun i=>match ops[i]? with
 | some o=>p i o
 | none=>true
def Bi (ops:List Oper)(m:Nat):Bool:=Nat.ble m ops.length&&(Te ops (Pf ops m) m&&(Te ops Wq ops.length&&Gf ops [] fun ms=>Te ops (fun i _=>Nat.blt i m || (List.range i).all (fun j=>oJ ms i j || (Nat.blt j m&&vU ops j))) ops.length))
structure Fx where
 p:Nat
 n:Nat
 o:HO
structure Rc where
 i:Nat
 o:Oper
 l:List (Nat × SV)
 s:SV
def jW (B:List HO):List Fx->(Nat->Bool)->List HO
 | [],_=>B
 | ⟨p,n,o⟩::r,S=>bif S p then cA (jW B r S) n o else jW B r S
theorem oX (B:List HO)(f:Fx)(r:List Fx)(S:Nat->Bool):jW B (f::r) S=bif S f.p then cA (jW B r S) f.n f.o else jW B r S:=by cases f;rfl
def XH:List Fx->(List Nat->Prop)->Prop
 | [],k=>k []
 | ⟨p,_,_⟩::r,k=>XH r fun ps=>k (p::ps)
theorem IU:∀(fx:List Fx) (k:List Nat->Prop),XH fx k=k (fx.map (·.p))
 | [],_=>rfl
 | ⟨p,_,_⟩::r,k=>by simp only[XH];rw[IU r];rfl
def N5:List HO->Nat->(Nat->Prop)->Prop
 | [],n,k=>k n
 | _::r,n,k=>N5 r (n+1) k
theorem DQ:∀(l:List HO) (n:Nat) (k:Nat->Prop),N5 l n k=k (n+l.length)
 | [],_,_=>rfl
 | _::r,n,k=>by simp only[N5];rw[DQ r];simp only[cF];congr 1;omega
def isOwn (Γ:List Con)(c:Call):Bool:=match c.callee with
 | .value (.func f)=>(match Ef Γ f with
  | some d=>(match d.hp,d.lin,d.own with
   | none,none,some _=>true
   | _,_,_=>false)
  | none=>false)
 | _=>false
def isA (Γ:List Con)(o:Oper):Bool:=match o.op,o.guard with
 | .makeSlice _ _ _,none=>true
 | .alloc _,none=>true
 | .call c,none=>isOwn Γ c
 | _,_=>false
def isL (Γ:List Con)(o:Oper):Bool:=match o.op with
 | .call c=>(match c.callee with
  | .builtin .append=>true
  | .builtin .copy=>true
  | .value (.func f)=>(match Ef Γ f with
   | some c=>(match c.lin,c.hp with
    | some (0,_,_),_=>true
    | _,some _=>true
    | _,_=>false)
   | none=>false)
  | _=>false)
 | .store _ _ _=>true
 | .mapEntry _ _ _=>true
 | .entryStore _ _ _ _=>true
 | .mapUpdate _ _ _ _=>true
 | _=>false
def Ln:SV->Nat
 | .ref n _=>n
 | .ptr n _=>n
 | .vptr n _ _ _ _=>n
 | .sub n _ _ _=>n
 | .part n _ _ _ _=>n
 | .lim n _ _ _=>n
 | .mp n=>n
 | _=>0
def Vy (l:List (Nat × SV))(o:Oper):Nat:=match o.op with
 | .call c=>(match c.args.toList with
  | x:: _=>Ln (ev l x)
  | []=>0)
 | .store _ a _=>Ln (ev l a)
 | .mapEntry _ a _=>Ln (ev l a)
 | .entryStore _ a _ _=>Ln (ev l a)
 | .mapUpdate _ a _ _=>Ln (ev l a)
 | _=>0
def IV (P:Program)(t:TypeId)(nm:Nat)(n c:SV)(K:SV->HO->Prop):Prop:=
 match fZ P t,n,c with
 | some e,.val (.int _ n),.val (.int _ c)=>match tyOf P 24 e,P.info? e,rA P e with
  | some ty,some i,some z=>bif Nat.beq i.size ty.size&&rX ty z&&Nat.beq z.length ty.size then (match HZ ty z with
    | some x0=>Need (0<=n/\n<=c/\c<=140737488355328/\c*(i.bytes:Int)<=140737488355328) (K (.ref nm 1) (.vec 1 ty (List.replicate n.toNat x0) e))
    | none=>False) else False
  | _,_,_=>False
 | _,_,_=>False
def VK (cl:List SV->(SV->HO->Prop)->Prop)(args:List SV)(nm:Nat)(K:SV->HO->Prop):Prop:=
 nD args fun as=>bif bare.bareL as then cl as fun r o=>Co r fun r=>(match o with
  | .vec _ t ys e=>bif Ei r then Co (SZ nm r) fun r'=>K r' (.vec 1 t ys e) else False
  | _=>False) else False
def Tf (P:Program)(Γ:List Con)(o:Oper)(l:List (Nat × SV))(nm:Nat)(K:SV->HO->Prop):Prop:=match o.op with
 | .makeSlice t n c=>bif Ss P t then DK P t (ev l n) (ev l c) fun n ty e ei=>K (.ref nm 1) (.vv 1 0 ty (List.replicate n.toNat []) none e ei) else IV P t nm (ev l n) (ev l c) K
 | .alloc t=>(match rA P t with
  | some z=>dQ z fun z'=>K (.ptr nm 0) (.cells z' t)
  | none=>False)
 | .call c=>(match c.callee with
  | .value (.func f)=>(match Ef Γ f with
   | some d=>(match d.hp,d.lin,d.own with
    | none,none,some cl=>VK cl (c.args.toList.map (ev l)) nm K
    | _,_,_=>False)
   | none=>False)
  | _=>False)
 | _=>False
structure PinH (p:SV->HO->Prop):Prop where
 ex:∃s o,p s o
structure Chk (p C:Prop):Prop where
 chk:p
 go:C
structure Fin0:Prop where
def U7 (o:Oper)(n:Nat):List Fx->Bool
 | []=>true
 | ⟨p,m,_⟩::r=>(!Nat.beq m n || waits o p)&&U7 o n r
theorem Wr {o:Oper}{n:Nat}:∀ {fx:List Fx},U7 o n fx=true->∀f∈fx,f.n=n->waits o f.p=true
 | ⟨p,m,b⟩::r,h,f,g,e=>by
  simp only[U7,aG,dA,nA] at h;rcases bY.1 g with rfl | g
  ·rcases h.1 with c | c
   ·have e:m=n:=e;rw[e] at c;simp at c
   exact c
  exact Wr h.2 f g e
def El (P:Program)(Γ:List Con)(N:Nat)(all:List Oper)(n0:Nat)(ops:List Oper):Nat->List (Nat × SV)->List HO->List Fx->List Rc->Nat->(List (Nat × SV)->List HO->List Fx->List Rc->Prop)->Prop:=
 List.rec (motive:=fun _=>Nat->List (Nat × SV)->List HO->List Fx->List Rc->Nat->(List (Nat × SV)->List HO->List Fx->List Rc->Prop)->Prop)
  (fun _ l H fx rs _ K=>K l H fx rs)
  (fun o _ ih i l H fx rs na K=>vT all l o.guard
   (fun l=>match isA Γ o with
    | true=>Tf P Γ o l (n0+na) fun s ob=>wC N l o.dst s fun l'=>dQ (cA H (n0+na) ob) fun H'=>ih (i+1) l' H' (⟨i,n0+na,ob⟩::fx) rs (na+1) K
    | false=>match isL Γ o with
     | true=>PinH fun s ob=>dQ (kN l o.op.operands.toList) fun l₁=>op1 P Γ o l₁ H fun s' H'=>Pinned (s'=s) (H'=cA H (Vy l₁ o) ob)
       (bif Nat.blt (Vy l₁ o) n0 || (Nat.blt (Vy l₁ o) (n0+na)&&U7 o (Vy l₁ o) fx) then wC N l o.dst s fun l'=>dQ (cA H (Vy l₁ o) ob) fun H''=>ih (i+1) l' H'' (⟨i,Vy l₁ o,ob⟩::fx) (⟨i,o,l₁,s⟩::rs) na K else False)
     | false=>Pin fun s=>dQ (kN l o.op.operands.toList) fun l₁=>op1 P Γ o l₁ H fun s' H'=>Pinned (s'=s) (H'=H) (wC N l o.dst s fun l'=>ih (i+1) l' H fx (⟨i,o,l₁,s⟩::rs) na K))
   (fun l=>wC N l o.dst (.tup []) fun l'=>ih (i+1) l' H fx rs na K)) ops
theorem BI (P:Program)(Γ:List Con)(N:Nat)(c:List Oper)(e:Nat)(o:Oper)(r:List Oper)(i:Nat)(l:List (Nat × SV))(H:List HO)(fx:List Fx)(rs:List Rc)(na:Nat)(K:List (Nat × SV)->List HO->List Fx->List Rc->Prop):El P Γ N c e (o::r) i l H fx rs na K=
  vT c l o.guard
   (fun l=>match isA Γ o with
    | true=>Tf P Γ o l (e+na) fun s g=>wC N l o.dst s fun f=>dQ (cA H (e+na) g) fun H'=>El P Γ N c e r (i+1) f H' (⟨i,e+na,g⟩::fx) rs (na+1) K
    | false=>match isL Γ o with
     | true=>PinH fun s g=>dQ (kN l o.op.operands.toList) fun l₁=>op1 P Γ o l₁ H fun s' H'=>Pinned (s'=s) (H'=cA H (Vy l₁ o) g)
       (bif Nat.blt (Vy l₁ o) e || (Nat.blt (Vy l₁ o) (e+na)&&U7 o (Vy l₁ o) fx) then wC N l o.dst s fun f=>dQ (cA H (Vy l₁ o) g) fun m=>El P Γ N c e r (i+1) f m (⟨i,Vy l₁ o,g⟩::fx) (⟨i,o,l₁,s⟩::rs) na K else False)
     | false=>Pin fun s=>dQ (kN l o.op.operands.toList) fun l₁=>op1 P Γ o l₁ H fun s' H'=>Pinned (s'=s) (H'=H) (wC N l o.dst s fun f=>El P Γ N c e r (i+1) f H fx (⟨i,o,l₁,s⟩::rs) na K))
   (fun l=>wC N l o.dst (.tup []) fun f=>El P Γ N c e r (i+1) f H fx rs na K):=rfl
def Em (n:Nat):List Nat->Bool
 | []=>false
 | x::r=>Nat.beq x n || Em n r
def Ws:List Nat->List (List Nat)
 | []=>[[]]
 | p::r=>Ws r++(Ws r).map (p:: ·)
def IW (ms ps:List Nat)(i:Nat)(sub:List Nat):Bool:=
 !Em i sub&&(ps.all (fun p=> !oJ ms i p || Em p sub)&&sub.all (fun p=> !oJ ms p i&&ps.all fun q=> !oJ ms p q || Em q sub))
def S0 (P:Program)(Γ:List Con)(B:List HO)(fx:List Fx)(i:Nat)(o:Oper)(l:List (Nat × SV))(s:SV)(sub:List Nat):Prop:=
 pY (jW B fx fun j=>Em j sub) fun H=>op1 P Γ o l H fun s' H'=>Pinned (s'=s) (H'=jW B fx fun j=>Em j sub || Nat.beq j i) Fin0
def BJ (P:Program)(Γ:List Con)(ms ps:List Nat)(B:List HO)(fx:List Fx)(i:Nat)(o:Oper)(l:List (Nat × SV))(s:SV)(sl:List (List Nat)):Prop:=
 List.rec (motive:=fun _=>Prop) Fin0 (fun sub _ ih=>cond (IW ms ps i sub) (Chk (S0 P Γ B fx i o l s sub) ih) ih) sl
theorem FW (P:Program)(Γ:List Con)(c ps:List Nat)(B:List HO)(fx:List Fx)(i:Nat)(o:Oper)(l:List (Nat × SV))(s:SV)(sub:List Nat)(e:List (List Nat)):BJ P Γ c ps B fx i o l s (sub::e)=cond (IW c ps i sub) (Chk (S0 P Γ B fx i o l s sub) (BJ P Γ c ps B fx i o l s e)) (BJ P Γ c ps B fx i o l s e):=rfl
def N6 (P:Program)(Γ:List Con)(ms ps:List Nat)(B:List HO)(fx:List Fx)(rs:List Rc):Prop:=
 List.rec (motive:=fun _=>Prop) Fin0 (fun r _ ih=>match r with
  | ⟨i,o,l,s⟩=>Chk (BJ P Γ ms ps B fx i o l s (Ws ps)) ih) rs
theorem FX (P:Program)(Γ:List Con)(c ps:List Nat)(B:List HO)(fx:List Fx)(r:Rc)(rs:List Rc):N6 P Γ c ps B fx (r::rs)=Chk (BJ P Γ c ps B fx r.i r.o r.l r.s (Ws ps)) (N6 P Γ c ps B fx rs):=by cases r;rfl
def yY (Γ:List Con):List Oper->Nat
 | []=>0
 | o::r=>bif isA Γ o then yY Γ r+1 else yY Γ r
def IX (Γ:List Con):List Oper->Bool
 | []=>false
 | o::r=>isA Γ o || (isL Γ o || IX Γ r)
def DR (P:Program)(Γ:List Con)(N:Nat)(all:List Oper)(m:Nat)(l:List (Nat × SV))(H:List HO)(K:List (Nat × SV)->List HO->Prop):Prop:=
 bif IX Γ (all.take m) then
  dQ (H++List.replicate (yY Γ (all.take m)) .res) fun B=>N5 H 0 fun n0=>El P Γ N all n0 (all.take m) 0 l B [] [] 0 fun l' H' fx rs=>
   Chk (Gf all [] fun ms=>XH fx fun ps=>N6 P Γ ms ps B fx rs) (oQ P Γ N all (all.drop m) l' H' K)
 else Hy P Γ N all (all.take m) l H fun l'=>oQ P Γ N all (all.drop m) l' H K
structure Ann where
 X:Type
 pre:X->Prop
 mod:X->List HO->List (Nat × SV)
 heap:X->List HO->List HO:=fun _ H=>H
 objs:List Nat:=[]
 mu:X->Nat:=fun _=>0
 swp:Option (Nat × Nat):=none
def mem (n:Nat):List Nat->Bool
 | []=>false
 | x::r=>Nat.beq x n || mem n r
def allN (p:Nat->Bool):SV->Bool
 | .ref nm _=>p nm
 | .vptr nm _ _ _ _=>p nm
 | .wide nm _=>p nm
 | .ptr nm _=>p nm
 | .mp nm=>p nm
 | .sub nm _ _ _=>p nm
 | .subp nm _ _=>p nm
 | .part nm _ _ _ _=>p nm
 | .lim nm _ _ _=>p nm
 | .lit _ l=>allNL p l
 | .lelem l _=>allNL p l
 | .fmp _ l=>allNL p l
 | .agg l=>allNL p l
 | .tup l=>allNL p l
 | .clo _ a b=>allNL p a&&allNL p b
 | _=>true
where allNL (p:Nat->Bool):List SV->Bool
 | []=>true
 | x::r=>allN p x&&allNL p r
def names (ns:List Nat)(s:SV):Bool:= !allN (fun n=> !mem n ns) s
def under (n:Nat)(s:SV):Bool:=allN (fun m=>Nat.blt m n) s
def gE:Code->List Nat
 | .region _ ops _=>ops.toList.filterMap (·.dst)
 | .seq a b=>gE a++gE b
 | .cond _ a b=>gE a++gE b
 | .block _ c=>gE c
 | .loop c=>gE c
 | .scope c=>gE c
 | _=>[]
def base (ws objs:List Nat):List (Nat × SV)->List (Nat × SV)
 | []=>[]
 | (t,v)::r=>(t,bif mem t ws || names objs v then .any else v)::base ws objs r
def N7:List (Nat × SV)->List (Nat × SV)->List (Nat × SV)
 | [],l=>l
 | (t,v)::r,l=>N7 r (put l t v)
def fL:HO->Bool
 | .cells _ _=>true
 | _=>false
def NV (objs:List Nat)(H' H:List HO):SV->SV
 | .ptr nm off=>bif mem nm objs then (bif fL (bX H' nm) then .ptr nm off else .any) else .ptr nm off
 | .ref nm v=>bif mem nm objs then (bif Nat.beq v (iU H' nm)&&Nat.blt 0 (iU H nm) then .ref nm (iU H nm) else .any) else .ref nm v
 | s=>bif names objs s then .any else s
def S1 (objs:List Nat)(H' H:List HO)(n:Nat)(l':List (Nat × SV)):List (Nat × SV)->Prop
 | []=>True
 | (t,s)::r=>(bif under n s&&under n (look l' t) then ent (NV objs H' H (look l' t)) s else ent .any s)/\S1 objs H' H n l' r
def zK (objs:List Nat)(H' H:List HO)(n:Nat):List SV->List SV->Prop
 | [],[]=>True
 | x::r,y::r'=>(bif under n y&&under n x then ent (NV objs H' H x) y else ent .any y)/\zK objs H' H n r r'
 | _,_=>False
def QO {t' t:Ty}(e:t'=t)(m:MapS t'.T)(K:MapS t.T->Prop):Prop:=Eq.rec (motive:=fun t _=>(MapS t.T->Prop)->Prop) (fun K=>K m) e K
theorem IY {c t:Ty}(e:c=t)(m:MapS c.T)(K:MapS t.T->Prop):QO e m K=K (e ▸ m):=by subst e;rfl
def IZ (t t':Ty)(m:MapS t.T)(m':MapS t'.T):Prop:=if h:t=t' then QO h m (fun m=>m=m') else False
def QQ {t' t:Ty}(e:t'=t)(xss:List (List t'.T))(K:List (List t.T)->Prop):Prop:=Eq.rec (motive:=fun t _=>(List (List t.T)->Prop)->Prop) (fun K=>K xss) e K
theorem FY {t:Ty}(c:List (List t.T))(K:List (List t.T)->Prop):QQ rfl c K=K c:=rfl
def S2 (t t':Ty)(xss:List (List t.T))(yss:List (List t'.T)):Prop:=if h:t=t' then QQ h xss (fun xss=>xss=yss) else False
def FZ (objs:List Nat)(H' H:List HO)(n nm:Nat):HO->HO->Prop
 | _,.dead=>True
 | .cells l e,.cells l' e'=>e=e'/\zK objs H' H n l l'
 | .vec v t xs e,.vec v' t' ys e'=>e=e'/\(bif mem nm objs then 0<v' else v=v')/\yQ t t' xs ys
 | .fro v t xs,.fro v' t' ys=>v=v'/\yQ t t' xs ys
 | .frc l,.frc l'=>zK objs H' H n l l'
 | .gone,.gone=>mem nm objs=false
 | .yst st m it,.yst st' m' it'=>mem nm objs=false/\st=st'/\m=m'/\it=it'
 | .map k t m,.map k' t' m'=>mem nm objs=false/\k=k'/\IZ t t' m m'
 | .vv k s t xss p eo ei,.vv k' s' t' yss p' eo' ei'=>mem nm objs=false/\k=k'/\s=s'/\S2 t t' xss yss/\eo=eo'/\ei=ei'/\p.isNone=true/\p'.isNone=true
 | .lnt k t xs,.lnt k' t' ys=>mem nm objs=false/\k=k'/\yQ t t' xs ys
 | .qm k l,.qm k' l'=>mem nm objs=false/\k=k'/\l=l'
 | .frm k l,.frm k' l'=>mem nm objs=false/\k=k'/\l=l'
 | .mit a s l c,.mit a' s' l' c'=>mem nm objs=false/\(mem a' objs=false/\Nat.blt a' n=true)/\a=a'/\s=s'/\l=l'/\c=c'
 | _,_=>False
def F0 (objs:List Nat)(A B:List HO)(n:Nat):Nat->List HO->List HO->Prop
 | _,_,[]=>True
 | k,o'::r',o::r=>FZ objs A B n k o' o/\F0 objs A B n (k+1) r' r
 | _,[],_:: _=>False
def Wu (an:Ann)(x:an.X)(ws:List Nat)(l:List (Nat × SV))(H:List HO):List (Nat × SV):=N7 (an.mod x H) (base ws an.objs l)
structure Arr (pre ent:Prop):Prop where
 pre:pre
 ent:ent
def vV (an:Ann)(x:an.X)(H:List HO)(l':List (Nat × SV))(H':List HO):Prop:=
 Arr (an.pre x) (S1 an.objs H' (an.heap x H) H.length l' (an.mod x H)/\F0 an.objs H' (an.heap x H) H.length 0 H' (an.heap x H))
def NW (a b:Nat):SV->SV
 | .ptr nm off=>bif Nat.beq nm b then .ptr a off else bif Nat.beq nm a then .any else .ptr nm off
 | s=>bif names [a,b] s then .any else s
def X3 (a b:Nat)(p:Nat × SV):Nat × SV:=(p.1,NW a b p.2)
def DS (a b:Nat):HO->HO
 | .cells l e=>.cells (l.map (NW a b)) e
 | .frc l=>.frc (l.map (NW a b))
 | .mit m s l c=>bif Nat.beq m a then .dead else .mit m s l c
 | o=>o
def Lo (a b:Nat)(H:List HO):List HO:=cA (cA (H.map (DS a b)) a (DS a b (bX H b))) b .dead
def En (an:Ann)(x:an.X)(H:List HO)(l':List (Nat × SV))(H':List HO):Prop:=
 match an.swp with
 | none=>vV an x H l' H'
 | some (t,a)=>match look l' t with
  | .ptr b 0=>bif mem a an.objs&&(Nat.ble H.length b&&(Nat.blt a H.length&&(fL (bX H' a)&&fL (bX H' b)))) then nG (l'.map (X3 a b)) fun l'=>pY (Lo a b H') fun H'=>vV an x H l' H' else False
  | _=>False
structure LoopVC (X:Type) (init:X->Prop) (round:X->Prop):Prop where
 init:∃x,init x
 round:∀x,round x
abbrev Wp:=List (Nat × SV)->List HO->(Exit->List (Nat × SV)->List HO->Prop)->Prop
def Gg (body:Wp)(n:Nat):Wp:=
 Nat.rec (motive:=fun _=>Wp) (fun _ _ _=>False)
  (fun _ ih l H K=>body l H fun e l' H'=>match e with
   | .normal=>nG l' fun l'=>pY H' fun H'=>ih l' H' K
   | e=>K e l' H') n
theorem Wv (body:Wp)(n:Nat)(l:List (Nat × SV))(H:List HO)(K:Exit->List (Nat × SV)->List HO->Prop):Gg body (n+1) l H K=body l H fun e c H'=>match e with
  | .normal=>nG c fun c=>pY H' fun H'=>Gg body n c H' K
  | e=>K e c H':=rfl
def I0 (ws:List Nat):List (Nat × SV)->Bool
 | []=>true
 | (t,_)::r=>mem t ws&&I0 ws r
def wE:Code->Option Nat
 | .region id _ _=>some id
 | .seq a b=>match wE a with
  | some n=>some n
  | none=>wE b
 | .cond _ _ _=>none
 | .block _ c=>wE c
 | .loop c=>wE c
 | .scope c=>wE c
 | _=>none
structure Anns where
 loops:List (Nat × Ann):=[]
 cuts:List (Nat × Ann):=[]
 rounds:Nat:=40
 asks:List (Nat × List Nat):=[]
def DT:List (Nat × Ann)->Nat->Option Ann
 | [],_=>none
 | (k,a)::r,n=>bif Nat.beq k n then some a else DT r n
def I1:List (Nat × List Nat)->Nat->Option (List Nat)
 | [],_=>none
 | (k,a)::r,n=>bif Nat.beq k n then some a else I1 r n
def Lp (A:Anns)(key:Nat):List Nat:=match DT A.loops key with
 | some an=>an.objs
 | none=>match I1 A.asks key with
  | some o=>o
  | none=>[]
structure Ask (objs:List Nat) (p:Ann->Prop):Prop where
 ex:∃an,an.objs=objs/\p an
def Bj (A:Anns)(key:Nat)(p:Ann->Prop)(no:Prop):Prop:=match DT A.loops key with
 | some an=>p an
 | none=>match I1 A.asks key with
  | some o=>Ask o p
  | none=>no
theorem Hz {A:Anns}{c:Nat}{p:Ann->Prop}{f:Prop}(h:Bj A c p f):(∃e,Lp A c=e.objs/\p e)\/f:=by
 unfold Bj at h;unfold Lp;split at h
 ·exact .inl ⟨_,rfl,h⟩
 split at h
 ·obtain ⟨e,g,m⟩:=h.ex;exact .inl ⟨e,g.symm,m⟩
 exact .inr h
def DU (A:Anns)(c:Code):Option Ann:=
 match A.cuts with
 | []=>none
 | cs=>match wE c with
  | some n=>DT cs n
  | none=>none
def dL (A:Anns):Nat->Code->List Nat
 | key,.seq a b=>dL A key a++dL A key b++(match DU A b with
  | some an=>an.objs
  | none=>[])
 | key,.cond _ a b=>dL A key a++dL A key b
 | _,.block id c=>dL A id c
 | key,.loop c=>dL A key c++Lp A key
 | key,.scope c=>dL A key c
 | key,.rangeFunc _ _ x y=>(dL A key x++dL A key y)++Lp A key
 | _,_=>[]
def qA (objs:List Nat)(n:Nat):List Nat->Bool
 | []=>true
 | x::r=>(mem x objs || Nat.ble n x)&&qA objs n r
def Tg:HO->Bool
 | .gone=>true
 | _=>false
def Ia:List HO->List HO->Bool
 | [],_=>true
 | o::r,o'::r'=>(!Tg o || Tg o')&&Ia r r'
 | _,[]=>false
def Ww (ws tch:List Nat)(an:Ann)(H:List HO):Prop:=∀x,(I0 ws (an.mod x H)&&Nat.beq (an.heap x H).length H.length&&qA an.objs H.length tch&&Ia H (an.heap x H))=true
def I2 (n:Nat):List SV->List SV
 | [.seq _ _]=>[.subp n 1 0]
 | vs=>vs.map Wg
def Lq:List SV->List HO
 | [.seq t xs]=>[.lnt 1 t xs]
 | _=>[]
def Wx:HO->Bool
 | .lnt 1 _ _=>true
 | _=>false
def DV (vs:List SV)(n:Nat)(D:List Nat)(H:List HO):Bool:=match vs with
 | [.seq _ _]=>Wx (bX H n)&& !mem n D
 | _=>true
def yZ (vs:List SV)(n:Nat)(H:List HO):List HO:=match vs with
 | [.seq _ _]=>cA H n .dead
 | _=>H
def Wy:List SV->Prop->Prop
 | [],C=>C
 | .val (.int k n)::r,C=>giv k n (Wy r C)
 | _::r,C=>Wy r C
def Wz:List Nat->List SV->List (Nat × SV)->List (Nat × SV)
 | t::ts,s::ss,l=>Wz ts ss (put l t s)
 | _,_,l=>l
structure RangeVC (X:Type) (init:Prop) (round stop:X->Prop):Prop where
 init:init
 round:∀x,round x
 stop:∀x,stop x
def BK (H:List HO):List SV->Option (Nat × Nat)
 | [.lelem [.ref nm k] 0]=>match bX H nm with
  | .vec j _ _ _=>bif Nat.beq j k then some (nm,k) else none
  | _=>none
 | _=>none
def Eo (nm k n:Nat)(H:List HO):Prop:=match bX H nm with
 | .vec j t xs _=>j=k/\t.size=1/\length (α:=t.T) xs=n
 | _=>False
def Gh (N:Nat)(A:Anns)(key:Nat)(ps:Array Tmp)(x y:Code)(an:Ann)(n:Nat)(items:Nat->List SV)(l:List (Nat × SV))(H:List HO)(X Y:List (Nat × SV)->List HO->(Exit->List (Nat × SV)->List HO->Prop)->Prop)(K:Exit->List (Nat × SV)->List HO->Prop):Prop:=
 bif !mem H.length an.objs then Need (Ww [] (dL A key x++dL A key y) an H) (RangeVC an.X (∃z,an.mu z=0/\vV an z H l H)
  (fun z=>an.pre z->an.mu z<n->nD (items (an.mu z)) fun vs=>bif Nat.beq vs.length ps.size&&(ps.toList.all fun t=>Nat.blt t N) then Wy vs (nD (I2 (H.length+1) vs) fun vs'=>nG (Wz ps.toList vs' (base [] an.objs l)) fun l₁=>pY ((an.heap z H++ [.gone])++Lq vs) fun H₁=>
   X l₁ H₁ fun e l' H'=>match e with
    | .normal=>Y l' H' fun e l' H'=>bif Tg (bX H' H.length)&&DV vs (H.length+1) (dL A key x++dL A key y) H' then (match e with
      | .normal=>∃z',an.mu z'=an.mu z+1/\vV an z' H l H'
      | .ret=>nG (base [] ((dL A key x++dL A key y)++an.objs) l) fun l'=>dQ (yZ vs (H.length+1) H') fun H'=>K .ret l' H'
      | .exit n=>nG (base [] ((dL A key x++dL A key y)++an.objs) l) fun l'=>dQ (yZ vs (H.length+1) H') fun H'=>K (.exit n) l' H'
      | _=>False) else False
    | _=>False) else False)
  (fun z=>an.pre z->an.mu z=n->nG (base [] an.objs l) fun l₁=>pY (an.heap z H++ [.gone]) fun H₁=>K .normal l₁ H₁)) else False
def nE (P:Program)(Γ:List Con)(N:Nat)(A:Anns)(key:Nat)(c:Code):Wp:=
 Code.rec (motive:=fun _=>Nat->Wp)
  (fun _ l H K=>
    K .normal l H)
  (fun _ ops draw _ l H K=>
    match draw with
     | false=>oQ P Γ N ops.toList ops.toList l H fun l' H'=>K .normal l' H'
     | true=>bif P.follows .mixedOrders&&Bi ops.toList (Td ops.toList ops.size) then
      DR P Γ N ops.toList (Td ops.toList ops.size) l H fun l' H'=>K .normal l' H'
     else False)
  (fun a b iha ihb key l H K=>
    match DU A b with
     | none=>iha key l H fun e l' H'=>match e with
      | .normal=>ihb key l' H' K
      | e=>K e l' H'
     | some an=>Need (Ww (gE a) (dL A key a) an H) (LoopVC Unit (fun _=>iha key l H fun e l' H'=>match e with
       | .normal=>∃x,vV an x H l' H'
       | e=>K e l' H')
      (fun _=>∀x,an.pre x->nG (Wu an x (gE a) l H) fun l'=>pY (an.heap x H) fun H'=>ihb key l' H' K)))
  (fun c a b iha ihb key l H K=>
    match ev l c with
     | .val (.bool true)=>iha key l H K
     | .val (.bool false)=>ihb key l H K
     | .bl p _=>Br p (iha key l H K) (ihb key l H K)
     | _=>False)
  (fun id c ihc _ l H K=>
    ihc id l H fun e l' H'=>match e with
     | .exit n=>bif Nat.beq n id then K .normal l' H' else K (.exit n) l' H'
     | e=>K e l' H')
  (fun c ihc key l H K=>
    Bj A key (fun an=>Need (Ww (gE c) (dL A key c) an H) (LoopVC an.X (fun x=>vV an x H l H)
      (fun x=>an.pre x->nG (Wu an x (gE c) l H) fun l₁=>pY (an.heap x H) fun H₁=>ihc key l₁ H₁ fun e l' H'=>match e with
       | .normal=>∃x',an.mu x'<an.mu x/\En an x' H l' H'
       | e=>K e l' H'))) (Gg (ihc key) A.rounds l H K))
  (fun g ps x y ihx ihy key l H K=>
    match ev l g with
     | .clo f [] caps=>Bj A key (fun an=>match Ef Γ f with
      | none=>False
      | some c=>match BK H caps with
       | some nk=>c.cl [.lelem [.sft none] 0] fun r=>Co r fun r=>match r with
        | .itr n items=>bif !mem nk.1 an.objs then Need (Eo nk.1 nk.2 n H/\∀z,an.pre z->Eo nk.1 nk.2 n (an.heap z H)) (Gh N A key ps x y an n items l H (ihx key) (ihy key) K) else False
        | _=>False
       | none=>dQ (jO H [.clo f [] caps]) fun H=>nD (caps.map (eU false H)) fun as=>bif bare.bareL as then c.cl as fun r=>Co r fun r=>match r with
        | .itr n items=>Gh N A key ps x y an n items l H (ihx key) (ihy key) K
        | _=>False
       else False) False
     | _=>False)
  (fun n _ l H K=>
    K (.exit n) l H)
  (fun _ _ _ _ _ _=>
    False)
  (fun _ _ l H K=>
    K .normal l H)
  (fun _ _ _ _ _=>
    False)
  (fun _ l H K=>
    K .ret l H)
  (fun _ _ _ _ _=>
    False)
  c key
theorem nH (P:Program)(Γ:List Con)(N:Nat)(A:Anns)(e i:Nat)(c:Array Oper)(l:List (Nat × SV))(H:List HO)(K:Exit->List (Nat × SV)->List HO->Prop):nE P Γ N A e (.region i c false) l H K=(oQ P Γ N c.toList c.toList l H fun f H'=>K .normal f H'):=rfl
theorem rD (P:Program)(Γ:List Con)(N:Nat)(A:Anns)(e i:Nat)(c:Array Oper)(l:List (Nat × SV))(H:List HO)(K:Exit->List (Nat × SV)->List HO->Prop):nE P Γ N A e (.region i c true) l H K=(bif P.follows .mixedOrders&&Bi c.toList (Td c.toList c.size) then
   DR P Γ N c.toList (Td c.toList c.size) l H fun f H'=>K .normal f H'
  else False):=rfl
theorem uK (P:Program)(Γ:List Con)(N:Nat)(A:Anns)(c:Nat)(a b:Code)(l:List (Nat × SV))(H:List HO)(K:Exit->List (Nat × SV)->List HO->Prop):nE P Γ N A c (.seq a b) l H K=(match DU A b with
  | none=>nE P Γ N A c a l H fun e f H'=>match e with
   | .normal=>nE P Γ N A c b f H' K
   | e=>K e f H'
  | some an=>Need (Ww (gE a) (dL A c a) an H) (LoopVC Unit (fun _=>nE P Γ N A c a l H fun e f H'=>match e with
    | .normal=>∃x,vV an x H f H'
    | e=>K e f H')
   (fun _=>∀x,an.pre x->nG (Wu an x (gE a) l H) fun f=>pY (an.heap x H) fun H'=>nE P Γ N A c b f H' K))):=rfl
theorem rE (P:Program)(Γ:List Con)(N:Nat)(A:Anns)(e:Nat)(c:Operand)(a b:Code)(l:List (Nat × SV))(H:List HO)(K:Exit->List (Nat × SV)->List HO->Prop):nE P Γ N A e (.cond c a b) l H K=(match ev l c with
  | .val (.bool true)=>nE P Γ N A e a l H K
  | .val (.bool false)=>nE P Γ N A e b l H K
  | .bl p _=>Br p (nE P Γ N A e a l H K) (nE P Γ N A e b l H K)
  | _=>False):=rfl
theorem oY (P:Program)(Γ:List Con)(N:Nat)(A:Anns)(f id:Nat)(c:Code)(l:List (Nat × SV))(H:List HO)(K:Exit->List (Nat × SV)->List HO->Prop):nE P Γ N A f (.block id c) l H K=(nE P Γ N A id c l H fun e g H'=>match e with
  | .exit n=>bif Nat.beq n id then K .normal g H' else K (.exit n) g H'
  | e=>K e g H'):=rfl
theorem rF (P:Program)(Γ:List Con)(N:Nat)(A:Anns)(f:Nat)(c:Code)(l:List (Nat × SV))(H:List HO)(K:Exit->List (Nat × SV)->List HO->Prop):nE P Γ N A f (.loop c) l H K=(Bj A f (fun g=>Need (Ww (gE c) (dL A f c) g H) (LoopVC g.X (fun x=>vV g x H l H)
   (fun x=>g.pre x->nG (Wu g x (gE c) l H) fun l₁=>pY (g.heap x H) fun H₁=>nE P Γ N A f c l₁ H₁ fun e m H'=>match e with
    | .normal=>∃n,g.mu n<g.mu x/\En g n H m H'
    | e=>K e m H'))) (Gg (nE P Γ N A f c) A.rounds l H K)):=rfl
theorem jX (P:Program)(Γ:List Con)(N:Nat)(A:Anns)(e:Nat)(g:Operand)(ps:Array Tmp)(x y:Code)(l:List (Nat × SV))(H:List HO)(K:Exit->List (Nat × SV)->List HO->Prop):nE P Γ N A e (.rangeFunc g ps x y) l H K=(match ev l g with
  | .clo f [] caps=>Bj A e (fun m=>match Ef Γ f with
   | none=>False
   | some c=>match BK H caps with
    | some nk=>c.cl [.lelem [.sft none] 0] fun r=>Co r fun r=>match r with
     | .itr n items=>bif !mem nk.1 m.objs then Need (Eo nk.1 nk.2 n H/\∀z,m.pre z->Eo nk.1 nk.2 n (m.heap z H)) (Gh N A e ps x y m n items l H (nE P Γ N A e x) (nE P Γ N A e y) K) else False
     | _=>False
    | none=>dQ (jO H [.clo f [] caps]) fun H=>nD (caps.map (eU false H)) fun o=>bif bare.bareL o then c.cl o fun r=>Co r fun r=>match r with
     | .itr n items=>Gh N A e ps x y m n items l H (nE P Γ N A e x) (nE P Γ N A e y) K
     | _=>False
    else False) False
  | _=>False):=rfl
def yR (P:Program)(l:List (Nat × SV))(H:List HO):List ResultVar->Option (List SV)
 | []=>some []
 | .tmp t::r=>match yR P l H r with
  | some vs=>some (look l t::vs)
  | none=>none
 | .cell a t::r=>match look l a,Gc P t,jQ P t,yR P l H r with
  | .ptr nm off,some ag,some sz,some vs=>match bX H nm with
   | .cells cs _=>match ag with
    | true=>bif Nat.ble (off+sz) cs.length then some (.agg ((cs.drop off).take sz)::vs) else none
    | false=>bif Nat.blt off cs.length then some (cs.getD off .any::vs) else none
   | _=>none
  | _,_,_,_=>none
def zN (l:List SV):SV:=
 match l with
 | [v]=>v
 | vs=>.tup vs
def Ep (H:List HO):SV->SV
 | .ref nm ver=>match bX H nm with
  | .vec v t xs _=>bif Nat.beq v ver&&t.flat then .seq t xs else .any
  | .vv v _ t xss none _ _=>bif Nat.beq v ver then .seq (.slice t) xss else .any
  | _=>.any
 | .val v=>.val v
 | .bl p d=>.bl p d
 | .str s=>.str s
 | .ifc=>.ifc
 | .num k=>.num k
 | _=>.any
def I3 (H:List HO):SV->SV
 | .agg l=>.agg (l.map (Ep H))
 | .tup l=>.tup (l.map fun s=>match s with
   | .agg l=>.agg (l.map (Ep H))
   | s=>Ep H s)
 | s=>Ep H s
def N8 (P:Program)(fresh:Bool)(rs:List ResultVar)(r:SV)(l:List (Nat × SV))(H:List HO):Prop:=
 match yR P l H rs with
 | some vs=>bif fresh then ent (I3 H (zN vs)) r else dQ (jO H vs) fun H'=>ent (yP false H' (zN vs)) r
 | none=>False
def fin (P:Program)(fresh:Bool)(rs:List ResultVar)(r:SV):Exit->List (Nat × SV)->List HO->Prop
 | .normal,l,H=>N8 P fresh rs r l H
 | .ret,l,H=>N8 P fresh rs r l H
 | _,_,_=>False
def zR:List SV->Nat->List (Nat × SV)
 | [],_=>[]
 | x::r,n=>(n,x)::zR r (n+1)
def body (P:Program)(Γ:List Con)(A:Anns)(fresh:Bool)(fn:Func)(args:List SV)(r:SV):Prop:=
 match fn.body with
 | some c=>nE P Γ fn.ntmps A 0 c (zR args 0) [] (fin P fresh fn.results.toList r)
 | none=>False
def finL (P:Program)(A:Anns)(c:Code)(same:Bool)(rs:List ResultVar)(r:SV)(t:Ty)(ys:List t.T)(e:TypeId):Exit->List (Nat × SV)->List HO->Prop
 | .normal,l,H=>endL l H
 | .ret,l,H=>endL l H
 | _,_,_=>False
where endL (l:List (Nat × SV)) (H:List HO):Prop:=match yR P l H rs,bX H 0 with
 | some vs,.vec k t' zs e'=>(bif same then Nat.beq k 1&& !mem 0 (dL A 0 c) else true)=true/\e'=e/\yQ t' t zs ys/\(match r with
   | .ref 0 1=>(match zN vs with
    | .ref 0 k'=>k'=k
    | _=>False)
   | r=>plain r=true/\ent (zN vs) r)
 | _,_=>False
def wF (P:Program)(Γ:List Con)(A:Anns)(fn:Func)(pos:Nat)(same:Bool)(args:List SV)(t:Ty)(xs:List t.T)(e:TypeId)(r:SV)(ys:List t.T):Prop:=
 match fn.body with
 | some c=>nE P Γ fn.ntmps A 0 c (zR (args.set pos (.ref 0 1)) 0) [.vec 1 t xs e] (finL P A c same fn.results.toList r t ys e)
 | none=>False
def N9 (nm k:Nat):SV->SV
 | .ref n j=>bif Nat.beq n nm&&Nat.beq j k then .ref 0 1 else .any
 | s=>bif plain s then s else .any
def Xa:List SV->Option (Nat × Nat)
 | []=>none
 | .ref n j:: _=>some (n,j)
 | _::r=>Xa r
def finO (P:Program)(rs:List ResultVar)(r:SV)(t:Ty)(ys:List t.T)(e:TypeId):Exit->List (Nat × SV)->List HO->Prop
 | .normal,l,H=>endO l H
 | .ret,l,H=>endO l H
 | _,_,_=>False
where endO (l:List (Nat × SV)) (H:List HO):Prop:=match yR P l H rs with
 | some vs=>match Xa vs with
  | some (nm,k)=>(match bX H nm with
   | .vec k' t' zs e'=>k'=k/\e'=e/\yQ t' t zs ys/\ent (zN (vs.map (N9 nm k))) r
   | _=>False)
  | none=>(match vs with
   | [.val (.slice none 0 0)]=>r= .ref 0 1/\length (α:=t.T) ys=0
   | _=>False)
 | none=>False
def wG (P:Program)(Γ:List Con)(A:Anns)(fn:Func)(args:List SV)(r:SV)(t:Ty)(ys:List t.T)(e:TypeId):Prop:=
 match fn.body with
 | some c=>nE P Γ fn.ntmps A 0 c (zR args 0) [] (finO P fn.results.toList r t ys e)
 | none=>False
def finH (P:Program)(rs:List ResultVar)(R:SV->List HO->Prop)(H0:List HO):Exit->List (Nat × SV)->List HO->Prop
 | .normal,l,H=>endH l H
 | .ret,l,H=>endH l H
 | _,_,_=>False
where endH (l:List (Nat × SV)) (H:List HO):Prop:=match yR P l H rs with
 | some vs=>∃s H',R s H'/\plain s=true/\ent (zN vs) s/\H'.length=H0.length/\Ia H0 H'=true/\F0 [] H H' H0.length 0 H H'
 | none=>False
def DW (P:Program)(Γ:List Con)(A:Anns)(fn:Func)(args:List SV)(H:List HO)(R:SV->List HO->Prop):Prop:=
 match fn.body with
 | some c=>Need (qA [] H.length (dL A 0 c)=true) (nE P Γ fn.ntmps A 0 c (zR args 0) H (finH P fn.results.toList R H))
 | none=>False
def finI (P:Program)(rs:List ResultVar):Exit->List (Nat × SV)->List HO->Prop
 | .normal,l,H=>endI l H
 | .ret,l,H=>endI l H
 | _,_,_=>False
where endI (l:List (Nat × SV)) (H:List HO):Prop:=match rs,bX H 0 with
 | [],.yst (some k) n _=>k=n
 | [],.yst none _ _=>True
 | _,_=>False
def Qh (P:Program)(Γ:List Con)(A:Anns)(fn:Func)(args:List SV)(n:Nat)(items:Nat->List SV):Prop:=
 match fn.body with
 | some c=>nE P Γ fn.ntmps A 0 c (zR (.yld 0::args) 0) [.yst (some 0) n items] (finI P fn.results.toList)
 | none=>False
theorem Zg {p C:Prop}(h:p->C):Giv p C:=⟨h⟩
theorem Zn {p C:Prop}(k:C)(h:p:=by first | omega | (intro _;rfl) | assumption | (simp<;>omega)):Need p C:=⟨h,k⟩
theorem Za {p C B:Prop}(k:C)(h:p:=by omega):Alt (Need p C) B:=.l ⟨h,k⟩
theorem Zb {p C A:Prop}(k:C)(h:p:=by omega):Alt A (Need p C):=.r ⟨h,k⟩
theorem Z0 {C:Nat->Prop}(h:C 0):Ix 0 C:=.zero h
theorem Z1 {C:Nat->Prop}(h:C 1):Ix 1 C:=.one h
theorem Z2 {C:Nat->Prop}(h:C 2):Ix 2 C:=.two h
theorem Zj {j:Nat}{C:Nat->Prop}(h:C j):Ix (j:Int) C:=.nat h
theorem Zk {j:Nat}{C:Nat->Prop}(h:C (j+1)):Ix ((j:Int)+1) C:=.add h
theorem Zy {p A B:Prop}(k:A)(h:p:=by first | omega | assumption):Br p A B:=.mkY h k
theorem Zm {p A B:Prop}(k:B)(h:¬p:=by first | omega | assumption | exact not_not_intro (by assumption)):Br p A B:=.mkN h k
theorem Zr {p A B:Prop}(h:p->A)(k:¬p->B):Br p A B:=⟨h,k⟩
theorem Zl {A B:Prop}(h:A):Own A B:=.l h
theorem Zo {A B:Prop}(h:B):Own A B:=.r h
theorem Zc {p C:Prop}(h:p)(k:C):Chk p C:=⟨h,k⟩
theorem Zf:Fin0:=⟨⟩
theorem Z8 {n:Int}{C:Prop}(k:C)(h:0<=n/\n<=1000000:=by omega):Need (0<=n/\n<=n/\n<=140737488355328/\n*((8:Nat):Int)<=140737488355328) C:=⟨om,k⟩
structure Hid (B:Prop):Prop where
 go:B
theorem ZG {A B:Prop}(b:B)(h:Hid B->A:=by (intro c;(conv=>whnf);(first|refine Za ?_|refine Zb ?_|refine Zn ?_|refine Z0 ?_|refine Z1 ?_|refine Z2 ?_|refine Zj ?_|refine Zk ?_|refine Alt.h ?_|refine Alt.r ?_|refine Zl ?_|refine Z8 ?_|fail);(repeat ((conv=>whnf);first|refine Za ?_|refine Zb ?_|refine Zn ?_|refine Z0 ?_|refine Z1 ?_|refine Z2 ?_|refine Zj ?_|refine Zk ?_|refine Alt.h ?_|refine Alt.r ?_|refine Zl ?_|refine Z8 ?_|fail));exact c.go)):A:=h ⟨b⟩
theorem ZN {A B:Prop}(b:B)(h:Hid B->A:=by (intro c;(conv=>whnf);(first|refine Za ?_|refine Zb ?_|refine Zn ?_|refine Z0 ?_|refine Z1 ?_|refine Z2 ?_|refine Zj ?_|refine Zk ?_|refine Alt.h ?_|refine Alt.r ?_|refine Z8 ?_|fail);(repeat ((conv=>whnf);first|refine Za ?_|refine Zb ?_|refine Zn ?_|refine Z0 ?_|refine Z1 ?_|refine Z2 ?_|refine Zj ?_|refine Zk ?_|refine Alt.h ?_|refine Alt.r ?_|refine Z8 ?_|fail));exact c.go)):A:=h ⟨b⟩
theorem ZP {A B:Prop}(b:B)(h:Hid B->A:=by (intro c;(conv=>whnf);(first|refine Za ?_|refine Zb ?_|refine Zn ?_|refine Z0 ?_|refine Z1 ?_|refine Z2 ?_|refine Zj ?_|refine Zk ?_|refine Alt.h ?_|refine Alt.r ?_|refine Zo ?_|refine Z8 ?_|fail);(repeat ((conv=>whnf);first|refine Za ?_|refine Zb ?_|refine Zn ?_|refine Z0 ?_|refine Z1 ?_|refine Z2 ?_|refine Zj ?_|refine Zk ?_|refine Alt.h ?_|refine Alt.r ?_|refine Zo ?_|refine Z8 ?_|fail));exact c.go)):A:=h ⟨b⟩
theorem ZR {A B:Prop}(b:B)(h:Hid B->A:=by (intro c;(conv=>whnf);(first|refine Za ?_|refine Zb ?_|refine Zn ?_|refine Z0 ?_|refine Z1 ?_|refine Z2 ?_|refine Zj ?_|refine Zk ?_|refine Alt.h ?_|refine Alt.r ?_|refine Zl ?_|refine Zy ?_|refine Zm ?_|refine Z8 ?_|fail);(repeat ((conv=>whnf);first|refine Za ?_|refine Zb ?_|refine Zn ?_|refine Z0 ?_|refine Z1 ?_|refine Z2 ?_|refine Zj ?_|refine Zk ?_|refine Alt.h ?_|refine Alt.r ?_|refine Zl ?_|refine Zy ?_|refine Zm ?_|refine Z8 ?_|fail));exact c.go)):A:=h ⟨b⟩
theorem ZX {A B:Prop}(b:B)(h:Hid B->A:=by (intro c;(conv=>whnf);(first|refine Za ?_|refine Zb ?_|refine Zn ?_|refine Z0 ?_|refine Z1 ?_|refine Z2 ?_|refine Zj ?_|refine Zk ?_|refine Alt.h ?_|refine Alt.r ?_|refine Zy ?_|refine Zm ?_|refine Z8 ?_|fail);(repeat ((conv=>whnf);first|refine Za ?_|refine Zb ?_|refine Zn ?_|refine Z0 ?_|refine Z1 ?_|refine Z2 ?_|refine Zj ?_|refine Zk ?_|refine Alt.h ?_|refine Alt.r ?_|refine Zy ?_|refine Zm ?_|refine Z8 ?_|fail));exact c.go)):A:=h ⟨b⟩
theorem ZH {A B:Prop}(b:B)(h:Hid B->A:=by (intro c;(conv=>whnf);(first|refine Alt.h ?_|refine Za ?_|refine Zb ?_|refine Zn ?_|refine Z0 ?_|refine Z1 ?_|refine Z2 ?_|refine Zj ?_|refine Zk ?_|refine Alt.r ?_|refine Zl ?_|refine Zy ?_|refine Zm ?_|refine Z8 ?_|fail);(repeat ((conv=>whnf);first|refine Alt.h ?_|refine Za ?_|refine Zb ?_|refine Zn ?_|refine Z0 ?_|refine Z1 ?_|refine Z2 ?_|refine Zj ?_|refine Zk ?_|refine Alt.r ?_|refine Zl ?_|refine Zy ?_|refine Zm ?_|refine Z8 ?_|fail));exact c.go)):A:=h ⟨b⟩
abbrev maxL:Nat:=140737488355328
def WV:Value->Prop
 | .int k n=>inK k n
 | _=>True
def Reads (w:World)(ok:Nat->Prop):(t:Ty)->t.T->List Value->Prop
 | .int k,n,cs=>cs= [.int k n]/\inK k n
 | .bool,b,cs=>cs= [.bool b]
 | .str,s,cs=>cs= [.string ⟨s.toArray⟩]/\s.length<=maxL
 | .pair a b,x,cs=>∃c1 c2,cs=c1++c2/\Reads w ok a x.1 c1/\Reads w ok b x.2 c2
 | .slice t,xs,cs=>∃a n c,cs= [.slice a n c]/\n=length (α:=t.T) xs/\n<=c/\n<=maxL/\
   (0<n->∃b off,a=some ⟨b,off,none⟩/\ok b/\∀i,i<n->∃es,es.length=t.size/\w.rangeAt b (off+i*t.size) es/\Reads w ok t (getD (α:=t.T) xs i t.dflt) es)
theorem Reads.length {w:World}{ok:Nat->Prop}{t:Ty}{x:t.T}{cs:List Value}(h:Reads w ok t x cs):cs.length=t.size:=by
 induction t generalizing cs with
 | int k=>obtain ⟨rfl,_⟩:=h;rfl
 | bool=>cases h;rfl
 | str=>obtain ⟨rfl,_⟩:=h;rfl
 | pair a b iha ihb=>obtain ⟨g,m,rfl,e,f⟩:=h;simp[Ty.size,iha e,ihb f]
 | slice t _=>obtain ⟨a,n,c,rfl,_⟩:=h;rfl
theorem Reads.mono {w w':World}{ok ok':Nat->Prop}(E:∀a v,ok a.block->w.cell? a=some v->w'.cell? a=some v)(J:∀b,ok b->ok' b){t:Ty}{x:t.T}{cs:List Value}(h:Reads w ok t x cs):Reads w' ok' t x cs:=by
 induction t generalizing cs with
 | int k=>exact h
 | bool=>exact h
 | str=>exact h
 | pair a b iha ihb=>obtain ⟨y,z,e,g,m⟩:=h;exact ⟨y,z,e,iha g,ihb m⟩
 | slice t ih=>
  obtain ⟨a,n,c,e,W,s,K,X⟩:=h;refine ⟨a,n,c,e,W,s,K,fun B=>?_⟩;obtain ⟨b,u,D,f,hi⟩:=X B;refine ⟨b,u,D,J b f,fun i o=>?_⟩;obtain ⟨A,g,m,C⟩:=hi i o;exact ⟨A,g,fun j v F=>E _ v f (m j v F),ih C⟩
structure Sub where
 v:Nat
 rows:Nat->Value
 pnd:Value
 snap:Nat->Option Obj
abbrev Ph:Sub:=⟨0,fun _=>.slice none 0 0,.slice none 0 0,fun _=>none⟩
structure Core where
 blk:Option (Nat × Nat)
 len:Nat
 cap:Nat
structure Loc extends Core where
 al:Nat->Prop
 sub:Sub
abbrev zT (b:Option (Nat × Nat))(n c:Nat):Loc:=⟨⟨b,n,c⟩,fun _=>False,Ph⟩
def Core.head (L:Core):Value:=.slice (L.blk.map fun p=>⟨p.1,p.2,none⟩) L.len L.cap
def softC (n:Nat)(c:Core)(W:World):Prop:=c.len=n/\n<=maxL/\(n=0\/∃g cur e fz,c.blk=some (g,0)/\n<=c.cap/\W.heap[g]? =some (.cells cur e fz)/\n<=cur.size)
structure Itr where
 on:Bool
 l:Nat
 n0:Nat
 ok:Nat->Prop
 n:Nat
 items:Nat->List SV
 J:Option Nat->(Nat->Prop)->World->Prop
 abides:∀st M W W',J st M W->W'.os=W.os->W'.tape=W.tape->W'.output=W.output->W.heap.size<=W'.heap.size->
  (∀b,b<W.heap.size->¬M b->W'.heap[b]? =W.heap[b]?)->J st (fun b=>M b\/(W.heap.size<=b/\b<W'.heap.size)) W'
 soft:Bool
 sf:Core
 softJ:soft=true->∀k M W,J (some k) M W->softC n sf W
def OA:Itr:=⟨false,0,0,fun _=>False,0,fun _=>[],fun _ _ _=>True,fun _ _ _ _ h _ _ _ _ _=>h,false,⟨none,0,0⟩,fun h=>by cases h⟩
def Itr.sv (t:Itr)(i:Option Nat)(v:Value):Prop:=t.soft=true/\match i with
 | none=>v=t.sf.head
 | some i=>∃b,t.sf.blk=some (b,0)/\v= .pointer (some ⟨b,i,none⟩)
instance:Inhabited Loc:=⟨zT none 0 0⟩
structure Env where
 w:World
 ok:Nat->Prop
 has:Nat->Bool
 loc:Nat->Loc
 ver:Nat->Nat
 gho:Nat->Nat->Prop
 ali:Nat->Prop
 itr:Itr
def keyV (k:Int × Int):Value:=.agg ⟨[.int .i64 k.1,.int .i64 k.2]⟩
structure KeysR (ks:List (Int × Int)) (es:List MapEntry):Prop where
 eq:es.map (·.key)=ks.map keyV
 rng:∀k∈ks,inK .i64 k.1/\inK .i64 k.2
 nd:ks.Pairwise (· ≠ ·)
structure QmR (ks:List (Int × Int)) (es:List MapEntry) (c:Nat):Prop where
 keys:KeysR ks es
 born:es.map (·.born)=List.range es.length
 clock:c=es.length
mutual
inductive Rel (E:Env):SV->Value->Prop
 | any (v:Value):Rel E .any v
 | val (v:Value) (h:WV v):Rel E (.val v) v
 | bl (p:Prop) (d:Decidable p):Rel E (.bl p d) (.bool (@decide p d))
 | str (s:Bx) (h:s.length<=maxL):Rel E (.str s) (.string ⟨s.toArray⟩)
 | seq (t:Ty) (xs:List t.T) (v:Value) (h:Reads E.w E.ok (.slice t) xs [v]):Rel E (.seq t xs) v
 | lit (es n b off:Nat) (l:List SV) (vs:List Value) (hl:RelL E l vs) (hn:vs.length=n*es) (hok:E.ok b) (hr:E.w.rangeAt b off vs):Rel E (.lit es l) (.slice (some ⟨b,off,none⟩) n n)
 | elem (t:Ty) (xs:List t.T) (i o b off:Nat) (es:List Value) (hi:i<xs.length) (hok:E.ok b) (hr:E.w.rangeAt b off es) (h:Reads E.w E.ok t (xs.getD i t.dflt) es):Rel E (.elem t xs i o) (.pointer (some ⟨b,off+o,none⟩))
 | lelem (l:List SV) (i b off:Nat) (vs:List Value) (hl:RelL E l vs) (hok:E.ok b) (hr:E.w.rangeAt b off vs):Rel E (.lelem l i) (.pointer (some ⟨b,off+i,none⟩))
 | ptr (nm off:Nat) (v:Value) (hn:E.has nm=true) (h:E.ver nm=0->∃b,(E.loc nm).blk=some (b,0)/\v= .pointer (some ⟨b,off,none⟩)):Rel E (.ptr nm off) v
 | ref (nm k:Nat) (v:Value) (hn:E.has nm=true) (h0:0<k) (hk:k<=E.ver nm) (h:k=E.ver nm->v=(E.loc nm).head):Rel E (.ref nm k) v
 | vptr (nm k i z o:Nat) (v:Value) (hn:E.has nm=true) (h0:0<k) (hk:k<=E.ver nm) (h:k=E.ver nm->i<(E.loc nm).len/\∃b off,(E.loc nm).blk=some (b,off)/\v= .pointer (some ⟨b,off+i*z+o,none⟩)):Rel E (.vptr nm k i z o) v
 | wide (nm k:Nat) (v:Value) (hn:E.has nm=true) (h0:0<k) (hk:k<=E.ver nm) (h:k=E.ver nm->∃n,n<=(E.loc nm).cap/\v= .slice ((E.loc nm).blk.map fun p=>⟨p.1,p.2,none⟩) n (E.loc nm).cap):Rel E (.wide nm k) v
 | agg (l:List SV) (vs:List Value) (hl:RelL E l vs):Rel E (.agg l) (.agg ⟨vs⟩)
 | tup (l:List SV) (vs:List Value) (hl:RelL E l vs):Rel E (.tup l) (.tuple ⟨vs⟩)
 | clo (f:FuncId) (a b:List SV) (va vb:List Value) (ha:RelL E a va) (hb:RelL E b vb):Rel E (.clo f a b) (.func (.func f) ⟨va⟩ ⟨vb⟩)
 | yld (l:Nat) (h:E.itr.on=true):Rel E (.yld l) (.func (.yield E.itr.l) #[] #[])
 | mp (nm:Nat) (v:Value) (hn:E.has nm=true) (h:E.ver nm=0->∃b,(E.loc nm).blk=some (b,0)/\v= .map (some b)):Rel E (.mp nm) v
 | sub (nm k s i:Nat) (v:Value) (hn:E.has nm=true) (h0:0<k) (hk:k<=E.ver nm) (hs:k=E.ver nm->s<=(E.loc nm).sub.v) (h:k=E.ver nm->s=(E.loc nm).sub.v->v=(E.loc nm).sub.rows i):Rel E (.sub nm k s i) v
 | subp (nm k s:Nat) (v:Value) (hn:E.has nm=true) (h0:0<k) (hk:k<=E.ver nm) (hs:k=E.ver nm->s<=(E.loc nm).sub.v) (h:k=E.ver nm->s=(E.loc nm).sub.v->v=(E.loc nm).sub.pnd):Rel E (.subp nm k s) v
 | part (nm k i j z:Nat) (v:Value) (hn:E.has nm=true) (h0:0<k) (hk:k<=E.ver nm) (h:k=E.ver nm->i<=j/\j<=(E.loc nm).len/\v= .slice (if (E.loc nm).cap=i then (E.loc nm).blk.map (fun p=>(⟨p.1,p.2,none⟩:Addr)) else ((E.loc nm).blk.map fun p=>(⟨p.1,p.2,none⟩:Addr)).map (·.add (i*z))) (j-i) ((E.loc nm).cap-i)):Rel E (.part nm k i j z) v
 | lim (nm k i z:Nat) (v:Value) (hn:E.has nm=true) (h0:0<k) (hk:k<=E.ver nm) (h:k=E.ver nm->i<=(E.loc nm).len/\v= .slice ((E.loc nm).blk.map fun p=>(⟨p.1,p.2,none⟩:Addr)) i i):Rel E (.lim nm k i z) v
 | ifc (v:Value) (h:v= .nilIface\/∃t x,v= .iface t x):Rel E .ifc v
 | num (k:IntKind) (n:Int) (h:inK k n):Rel E (.num k) (.int k n)
 | wcel (n:Int) (b:Nat) (e:TypeId) (hw:WV (.int .i64 n)) (hok:E.ok b) (hr:E.w.heap[b]? =some (.cells ⟨[.int .i64 n]⟩ e (0,0))):Rel E (.wcel n) (.pointer (some ⟨b,0,none⟩))
 | sft (i:Option Nat) (v:Value) (h:E.itr.on=true) (hv:E.itr.sv i v):Rel E (.sft i) v
 | fmp (ks:List (Int × Int)) (l:List SV) (b c:Nat) (es:List MapEntry) (hok:E.ok b) (hb:E.w.heap[b]? =some (.map ⟨es⟩ c)) (hk:KeysR ks es) (hl:RelL E l (es.map (·.val))):Rel E (.fmp ks l) (.map (some b))
inductive RelL (E:Env):List SV->List Value->Prop
 | nil:RelL E [] []
 | cons (s:SV) (v:Value) (l:List SV) (vs:List Value) (h:Rel E s v) (hl:RelL E l vs):RelL E (s::l) (v::vs)
end
def isBook:Obj->Bool
 | .deferred _=>true
 | .loop _=>true
 | _=>false
structure Ext0 (E E':Env):Prop where
 blk:∀b,E.ok b->E'.w.heap[b]? =E.w.heap[b]?
 ok:∀b,E.ok b->E'.ok b
 num:∀nm,E.has nm=true->E'.has nm=true
 ver:∀nm,E.has nm=true->(E'.ver nm=E.ver nm/\(E'.loc nm).toCore=(E.loc nm).toCore)\/(0<E.ver nm/\E.ver nm<E'.ver nm)
 os:E'.w.os=E.w.os
 tape:E'.w.tape=E.w.tape
 output:E'.w.output=E.w.output
 size:E.w.heap.size<=E'.w.heap.size
 ali:∀b,E'.ali b->E.ali b\/E.w.heap.size<=b
 itr:E'.itr=E.itr
 sub:∀nm,E.has nm=true->E'.ver nm=E.ver nm->(E'.loc nm).sub=(E.loc nm).sub\/(E.loc nm).sub.v<(E'.loc nm).sub.v
structure Ext (E E':Env):Prop extends Ext0 E E' where
 keep:∀(k:Nat) (o:Obj),¬E.ali k->E.w.heap[k]? =some o->isBook o=true->E'.w.heap[k]? =some o
 gho:∀nm b,E.gho nm b->E'.gho nm b/\E'.w.heap[b]? =E.w.heap[b]?
 gho':∀nm b,E.has nm=true->E'.gho nm b->E.gho nm b
theorem Ext0.cell {E E':Env}(x:Ext0 E E'):∀a v,E.ok a.block->E.w.cell? a=some v->E'.w.cell? a=some v:=
 fun a v e c=>(World.cell?_of_block (x.blk _ e)).trans c
theorem Ext.cell {E E':Env}(x:Ext E E'):∀a v,E.ok a.block->E.w.cell? a=some v->E'.w.cell? a=some v:=x.toExt0.cell
theorem Ext.refl (E:Env):Ext E E:=⟨⟨fun _ _=>rfl,fun _ h=>h,fun _ h=>h,fun _ _=>.inl ⟨rfl,rfl⟩,rfl,rfl,rfl,aI _,fun _ h=>.inl h,rfl,fun _ _ _=>.inl rfl⟩,fun _ _ _ h _=>h,fun _ _ h=>⟨h,rfl⟩,fun _ _ _ h=>h⟩
theorem zU {E E':Env}(x:Ext0 E E'){b off:Nat}{vs:List Value}(c:E.ok b)(h:E.w.rangeAt b off vs):E'.w.rangeAt b off vs:=fun j v e=>x.cell _ v c (h j v e)
def VL:Obj->Bool
 | .cells _ _ _=>true
 | .map _ _=>true
 | _=>false
def KeepC (E E':Env):Prop:=∀b o,E.ok b->E.w.heap[b]? =some o->VL o=true->E'.w.heap[b]? =some o
theorem DX (l:List SV)(off:Nat):(∃n,H6 l off= .wcel n/\l= [.val (.int .i64 n)]/\off=0)\/H6 l off= .lelem l off:=by
 unfold H6;split
 ·exact .inl ⟨_,rfl,rfl,rfl⟩
 exact .inr rfl
theorem Xb {E:Env}{l:List SV}{off b:Nat}{vs:List Value}{e:TypeId}(f:RelL E l vs)(c:E.ok b)(g:E.w.heap[b]? =some (.cells ⟨vs⟩ e (0,0))):Rel E (H6 l off) (.pointer (some ⟨b,off,none⟩)):=by
 rcases DX l off with ⟨n,e1,rfl,rfl⟩ | e1
 ·rw[e1];cases f with
  | cons _ v _ vs hv hn=>
   cases hn;cases hv with
   | val _ hw=>exact .wcel n b e hw c g
 rw[e1];have:=Rel.lelem (E:=E) l off b 0 vs f c (fun j v m=>by simp only[World.cell?,g];simpa using m);rwa [eS] at this
theorem KeepC.cell {E E':Env}(h:KeepC E E'):∀a v,E.ok a.block->E.w.cell? a=some v->E'.w.cell? a=some v:=by
 intro a v n g;unfold World.cell? at g ⊢;split at g
 ·rename_i c e f m;rw[h _ _ n m rfl];exact g
 cases g
theorem Ext0.keepC {E E':Env}(x:Ext0 E E'):KeepC E E':=fun b _ c h _=>(x.blk b c).trans h
mutual
theorem Rel.ext0 {E E':Env}(x:Ext0 E E'){s:SV}{v:Value}(h:Rel E s v):Rel E' s v:=by
 cases h with
 | any=>exact .any v
 | val _ h=>exact .val v h
 | bl p d=>exact .bl p d
 | str s h=>exact .str s h
 | seq t xs _ h=>exact .seq t xs v (h.mono x.cell x.ok)
 | lit es n b off l vs hl hn hok hr=>exact .lit es n b off l vs (hl.ext0 x) hn (x.ok _ hok) (zU x hok hr)
 | elem t xs i o b off es hi hok hr h=>exact .elem t xs i o b off es hi (x.ok _ hok) (zU x hok hr) (h.mono x.cell x.ok)
 | lelem l i b off vs hl hok hr=>exact .lelem l i b off vs (hl.ext0 x) (x.ok _ hok) (zU x hok hr)
 | ptr nm off _ hn h=>
  refine .ptr nm off v (x.num nm hn) fun g=>?_;rcases x.ver nm hn with ⟨e1,e2⟩ | ⟨e1,e2⟩
  ·rw[e1] at g;obtain ⟨b,m,u⟩:=h g;exact ⟨b,by rw[e2];exact m,u⟩
  omega
 | ref nm k _ hn g hk h=>
  rcases x.ver nm hn with ⟨e1,e2⟩ | ⟨e1,e2⟩
  ·exact .ref nm k v (x.num nm hn) g om fun e=>by rw[e2];exact h om
  exact .ref nm k v (x.num nm hn) g om fun e=>om
 | vptr nm k i z o _ hn g hk h=>
  rcases x.ver nm hn with ⟨e1,e2⟩ | ⟨e1,e2⟩
  ·exact .vptr nm k i z o v (x.num nm hn) g om fun e=>by rw[e2];exact h om
  exact .vptr nm k i z o v (x.num nm hn) g om fun e=>om
 | wide nm k _ hn g hk h=>
  rcases x.ver nm hn with ⟨e1,e2⟩ | ⟨e1,e2⟩
  ·exact .wide nm k v (x.num nm hn) g om fun e=>by rw[e2];exact h om
  exact .wide nm k v (x.num nm hn) g om fun e=>om
 | agg l vs hl=>exact .agg l vs (hl.ext0 x)
 | tup l vs hl=>exact .tup l vs (hl.ext0 x)
 | clo f a b va vb ha m=>exact .clo f a b va vb (ha.ext0 x) (m.ext0 x)
 | yld l h=>rw[<- x.itr] at h ⊢;exact .yld l h
 | sft i _ h u=>rw[<- x.itr] at h u;exact .sft i v h u
 | mp nm _ hn h=>
  refine .mp nm v (x.num nm hn) fun g=>?_;rcases x.ver nm hn with ⟨e1,e2⟩ | ⟨e1,e2⟩
  ·rw[e1] at g;obtain ⟨b,m,u⟩:=h g;exact ⟨b,by rw[e2];exact m,u⟩
  omega
 | sub nm k s i _ hn g hk hs h=>
  rcases x.ver nm hn with ⟨e1,e2⟩ | ⟨e1,e2⟩
  ·have e3:=x.sub nm hn e1;refine .sub nm k s i v (x.num nm hn) g om (fun e=>?_) (fun e e4=>?_)
   ·have:=hs om;rcases e3 with e3 | e3
    ·rw[e3];exact this
    omega
   have y:=hs om;rcases e3 with e3 | e3
   ·rw[e3] at e4 ⊢;exact h om e4
   omega
  exact .sub nm k s i v (x.num nm hn) g om (fun e=>om) (fun e=>om)
 | part nm k i j z _ hn g hk h=>
  rcases x.ver nm hn with ⟨e1,e2⟩ | ⟨e1,e2⟩
  ·exact .part nm k i j z v (x.num nm hn) g om fun e=>by rw[e2];exact h om
  exact .part nm k i j z v (x.num nm hn) g om fun e=>om
 | lim nm k i z _ hn g hk h=>
  rcases x.ver nm hn with ⟨e1,e2⟩ | ⟨e1,e2⟩
  ·exact .lim nm k i z v (x.num nm hn) g om fun e=>by rw[e2];exact h om
  exact .lim nm k i z v (x.num nm hn) g om fun e=>om
 | ifc _ h=>exact .ifc v h
 | num k n h=>exact .num k n h
 | wcel n b e hw hok hr=>exact .wcel n b e hw (x.ok _ hok) ((x.blk _ hok).trans hr)
 | fmp ks l b c es hok m hk hl=>exact .fmp ks l b c es (x.ok _ hok) ((x.blk _ hok).trans m) hk (hl.ext0 x)
 | subp nm k s _ hn g hk hs h=>
  rcases x.ver nm hn with ⟨e1,e2⟩ | ⟨e1,e2⟩
  ·have e3:=x.sub nm hn e1;refine .subp nm k s v (x.num nm hn) g om (fun e=>?_) (fun e e4=>?_)
   ·have:=hs om;rcases e3 with e3 | e3
    ·rw[e3];exact this
    omega
   have y:=hs om;rcases e3 with e3 | e3
   ·rw[e3] at e4 ⊢;exact h om e4
   omega
  exact .subp nm k s v (x.num nm hn) g om (fun e=>om) (fun e=>om)
theorem RelL.ext0 {E E':Env}(x:Ext0 E E'){l:List SV}{vs:List Value}(h:RelL E l vs):RelL E' l vs:=by
 cases h with
 | nil=>exact .nil
 | cons s v l vs h hl=>exact .cons s v l vs (h.ext0 x) (hl.ext0 x)
end
theorem Rel.ext {E E':Env}(x:Ext E E'){s:SV}{v:Value}(h:Rel E s v):Rel E' s v:=h.ext0 x.toExt0
theorem RelL.ext {E E':Env}(x:Ext E E'){l:List SV}{vs:List Value}(h:RelL E l vs):RelL E' l vs:=h.ext0 x.toExt0
theorem RelL.length {E:Env}:∀ {l:List SV} {vs:List Value},RelL E l vs->l.length=vs.length
 | _,_,.nil=>rfl
 | _,_,.cons _ _ _ _ _ hl=>by simp[hl.length]
theorem RelL.get {E:Env}:∀ {l:List SV} {vs:List Value},RelL E l vs->∀i,i<l.length->Rel E (l.getD i .any) (vs.getD i undef)
 | _,_,.cons _ _ _ _ h _,0,_=>h
 | _,_,.cons _ _ l vs _ hl,i+1,hi=>by
  have:=hl.get i (by simpa using hi);simpa using this
theorem RelL.take {E:Env}:∀ {l:List SV} {vs:List Value},RelL E l vs->∀n,RelL E (l.take n) (vs.take n)
 | _,_,.nil,n=>by simp;exact .nil
 | _,_,.cons s v l vs h hl,0=>by simp;exact .nil
 | _,_,.cons s v l vs h hl,n+1=>by simp;exact .cons _ _ _ _ h (hl.take n)
theorem RelL.drop {E:Env}:∀ {l:List SV} {vs:List Value},RelL E l vs->∀n,RelL E (l.drop n) (vs.drop n)
 | _,_,.nil,n=>by simp;exact .nil
 | _,_,.cons s v l vs h hl,0=>by simp;exact .cons _ _ _ _ h hl
 | _,_,.cons s v l vs h hl,n+1=>by simp;exact hl.drop n
theorem RelL.append {E:Env}:∀ {l:List SV} {vs:List Value},RelL E l vs->∀ {l' vs'},RelL E l' vs'->RelL E (l++l') (vs++vs')
 | _,_,.nil,_,_,h'=>h'
 | _,_,.cons s v l vs h hl,_,_,h'=>.cons _ _ _ _ h (hl.append h')
theorem RelL.set {E:Env}:∀ {l:List SV} {vs:List Value},RelL E l vs->∀(i:Nat) {s v},Rel E s v->RelL E (l.set i s) (vs.set i v)
 | _,_,.nil,_,_,_,_=>.nil
 | _,_,.cons _ _ _ _ _ hl,0,_,_,h'=>.cons _ _ _ _ h' hl
 | _,_,.cons _ _ _ _ h hl,i+1,_,_,h'=>.cons _ _ _ _ h (hl.set i h')
def lP (l:List Value)(off:Nat):List Value->List Value
 | []=>l
 | v::r=>lP (l.set off v) (off+1) r
theorem RelL.setCells {E:Env}{l:List SV}{vs:List Value}(h:RelL E l vs):∀ {r:List SV} {c:List Value},RelL E r c->∀off,RelL E (Eng.setCells l off r) (lP vs off c)
 | _,_,.nil,_=>h
 | _,_,.cons _ _ _ _ h' hl,off=>(h.set off h').setCells hl (off+1)
theorem xM (r:List Value):∀(l:List Value) (off:Nat),(lP l off r).length=l.length:=by
 induction r with
 | nil=>intro l off;rfl
 | cons v r ih=>intro l off;simp only[lP];rw[ih];simp
theorem Bk (r:List Value):∀(l:List Value) (off i:Nat),off+r.length<=l.length->(lP l off r)[i]? =if off<=i/\i<off+r.length then r[i-off]? else l[i]? :=by
 induction r with
 | nil=>intro l off i h;simp[lP];omega
 | cons v r ih=>
  intro l off i h;simp only[lP,cF] at h ⊢;rw[ih _ _ _ (by simp;omega),fY];by_cases c:i=off
  ·subst c;rw[aD om,aE rfl,aE om,aE om];simp
  by_cases f:off+1<=i/\i<off+1+r.length
  ·rw[aE f,aE om];obtain ⟨k,rfl⟩:∃k,i=off+1+k:=⟨i-(off+1),om⟩;have e1:off+1+k-(off+1)=k:=om;have e2:off+1+k-off=k+1:=om;rw[e1,e2];rfl
  rw[aD f];have:¬off=i:=fun e=>c e.symm;rw[aD this,aD om]
theorem zV:∀(cs z:List SV) (o:Nat),o+cs.length<=z.length->setCells z o cs=z.take o++cs++z.drop (o+cs.length)
 | [],z,o,_=>by simp[setCells]
 | v::r,z,o,h=>by
  rw[cF] at h;have c:o<z.length:=om;rw[setCells,zV r (z.set o v) (o+1) (by rw[fE];omega)];have e1:(z.set o v).take (o+1)=z.take o++ [v]:=by
   rw[cI (by rw[fE];exact c)];simp[List.take_set_of_le]
  have e2:(z.set o v).drop (o+1+r.length)=z.drop (o+(v::r).length):=by
   rw[List.drop_set_of_lt om,cF];congr 1
   omega
  rw[e1,e2];simp
theorem OB (l:List SV)(off:Nat)(r:List SV):SY l off r=setCells l off r:=by
 cases off with
 | zero=>
  unfold SY;cases hb:Nat.beq r.length l.length with
  | false=>rfl
  | true=>
   have e:=Nat.eq_of_beq_eq_true hb;rw[bP,zV r l 0 om];simp[e]
 | succ o=>rfl
theorem Jk (r:List SV):∀(l:List SV) (off:Nat),(setCells l off r).length=l.length:=by
 induction r with
 | nil=>intro l off;rfl
 | cons v r ih=>intro l off;simp only[setCells];rw[ih];simp
theorem Reads.enc {E:Env}{t:Ty}{x:t.T}{cs:List Value}(h:Reads E.w E.ok t x cs):RelL E (enc t x) cs:=by
 induction t generalizing cs with
 | int k=>obtain ⟨rfl,e⟩:=h;exact .cons _ _ _ _ (.val _ e) .nil
 | bool=>cases h;exact .cons _ _ _ _ (by cases x<;>exact .bl _ _) .nil
 | str=>obtain ⟨rfl,e⟩:=h;exact .cons _ _ _ _ (.str _ e) .nil
 | pair a b iha ihb=>obtain ⟨o,s,rfl,f,g⟩:=h;exact (iha f).append (ihb g)
 | slice t _=>
  obtain ⟨a,n,c,rfl,m⟩:=h;exact .cons _ _ _ _ (.seq t x _ ⟨a,n,c,rfl,m⟩) .nil
theorem Reads.giv {w:World}{ok:Nat->Prop}{t:Ty}{x:t.T}{cs:List Value}(h:Reads w ok t x cs){C:Prop}(g:H5 t x C):C:=by
 induction t generalizing cs C with
 | int k=>exact C8 g h.2
 | bool=>exact g
 | str=>exact g
 | pair a b iha ihb=>obtain ⟨s,u,rfl,e,f⟩:=h;exact ihb f (iha e g)
 | slice t _=>obtain ⟨a,n,c,rfl,z,y,m,_⟩:=h;have o:n<=140737488355328:=m;exact g.go om
theorem RelL.one {E:Env}{s:SV}{vs:List Value}(h:RelL E [s] vs):∃v,vs= [v]/\Rel E s v:=by
 cases h with
 | cons _ v _ _ h1 h2=>cases h2;exact ⟨v,rfl,h1⟩
theorem Xc {l:List SV}{n:Int}(h:A3 l=some n):∃k,l= [.val (.int k n)]:=by
 unfold A3 at h;split at h
 ·cases h;exact ⟨_,rfl⟩
 cases h
theorem Xd {l:List SV}{n:Bx}(h:A4 l=some n):l= [.str n]:=by
 unfold A4 at h;split at h
 ·cases h;rfl
 cases h
theorem Xe {k k':IntKind}{n:Int}(h:A5 k [.val (.int k' n)]=true):k=k':=by simpa [A5] using h
theorem Bl (w:World)(ok:Nat->Prop)(t:Ty):Reads w ok (.slice t) [] [.slice none 0 0]:=⟨none,0,0,rfl,rfl,aI _,aF _,fun h=>absurd h (iQ _)⟩
theorem wI {E:Env}{t:Ty}{l:List SV}{cs:List Value}{x:t.T}(h:RelL E l cs)(c:HZ t l=some x)(g:rX t l=true):Reads E.w E.ok t x cs:=by
 induction t generalizing l cs with
 | int k=>
  obtain ⟨m,rfl⟩:=Xc c;obtain rfl:=Xe g;obtain ⟨v,rfl,f⟩:=h.one;cases f with
  | val _ hw=>exact ⟨rfl,hw⟩
 | bool=>
  simp only[HZ] at c;unfold DD at c;split at c
  ·cases c;obtain ⟨v,rfl,f⟩:=h.one;cases f;rfl
  ·cases c;obtain ⟨v,rfl,f⟩:=h.one;cases f;rfl
  cases c
 | str=>
  obtain rfl:=Xd c;obtain ⟨v,rfl,f⟩:=h.one;cases f with
  | str _ hw=>exact ⟨rfl,hw⟩
 | slice t _=>
  simp only[HZ] at c;unfold Wh at c;split at c
  ·rename_i n u;split at c
   ·rename_i e;subst e;cases c;obtain ⟨v,rfl,f⟩:=h.one;cases f with
    | seq _ _ _ hr=>exact hr
   cases c
  ·cases c;obtain ⟨v,rfl,f⟩:=h.one;cases f;exact Bl _ _ _
  cases c
 | pair a b iha ihb=>
  simp only[HZ] at c;simp only[rX,aG] at g;split at c
  ·rename_i o s e1 e2;cases c;exact ⟨cs.take a.size,cs.drop a.size,si,iha (h.take _) e1 g.1,ihb (h.drop _) e2 g.2⟩
  cases c
theorem Reads.one {w:World}{ok:Nat->Prop}{t:Ty}{x:t.T}{cs:List Value}(h:Reads w ok t x cs):∀u∈cs,u.oneCell'=true:=by
 induction t generalizing cs with
 | int k=>obtain ⟨rfl,_⟩:=h;simp[Value.oneCell']
 | bool=>cases h;simp[Value.oneCell']
 | str=>obtain ⟨rfl,_⟩:=h;simp[Value.oneCell']
 | slice t _=>obtain ⟨a,n,c,rfl,_⟩:=h;simp[Value.oneCell']
 | pair a b iha ihb=>
  obtain ⟨m,o,rfl,e,f⟩:=h;intro u g;rcases eT.1 g with h | h
  ·exact iha e u h
  exact ihb f u h
def _root_.Go.World.ownsR (w:World)(base:Nat)(e:TypeId)(size:Nat)(v:Value)(n:Nat)(xs:List Value):Prop:=
 xs.length=n*size/\((v= .slice none 0 0/\n=0)\/∃(g cap:Nat) (cur:Array Value),v= .slice (some ⟨g,0,none⟩) n cap/\base<=g/\w.heap[g]? =some (.cells cur e (0,0))/\n<=cap/\cap<=maxLen/\cap*size<=cur.size/\cur.toList.take (n*size)=xs)
theorem cW {w:World}{base:Nat}{e:TypeId}{size n:Nat}{L:Loc}{vs:List Value}(h:w.ownsR base e size L.head n vs):
  (L.blk=none/\L.cap=0/\L.len=0/\n=0)\/∃g cur,L.blk=some (g,0)/\L.len=n/\w.heap[g]? =some (.cells cur e (0,0))/\n<=L.cap/\L.cap<=maxLen/\L.cap*size<=cur.size/\cur.toList.take (n*size)=vs:=by
 obtain ⟨_,⟨c,m⟩ | ⟨g,f,cur,c,_,o,x,y,s,u⟩⟩:=h
 ·left
  simp only[Core.head,Value.slice.injEq,Option.map_eq_none_iff] at c;exact ⟨c.1,c.2.2,c.2.1,m⟩
 right
 simp only[Core.head,Value.slice.injEq] at c;obtain ⟨e1,e2,e3⟩:=c;cases hb:L.blk with
 | none=>rw[hb] at e1;cases e1
 | some p=>
  rw[hb] at e1;simp at e1;obtain ⟨e4,e5⟩:=e1;refine ⟨g,cur,?_,e2,o,om,om,by rw[e3];exact s,u⟩;cases p;simp_all
structure Ctx where
 w0:World
 ok0:Nat->Prop
 mine:Nat->Prop
 apart:∀b,ok0 b->¬mine b
 below:∀b,ok0 b->b<w0.heap.size
 itr:Itr
 low:itr.n0<=w0.heap.size
def Owns (L:Loc)(o:HO)(b:Nat):Prop:=
 match o with
 | .cells _ _=>L.blk.map (·.1)=some b
 | .vec _ _ _ _=>L.blk.map (·.1)=some b
 | .map _ _ _=>L.blk.map (·.1)=some b
 | .qm _ _=>L.blk.map (·.1)=some b
 | .mit _ _ _ _=>L.blk.map (·.1)=some b
 | .vv _ _ _ _ _ _ _=>L.blk.map (·.1)=some b\/L.al b
 | .gone=>L.al b
 | .yst _ _ _=>L.al b
 | .lnt _ _ _=>∃o,L.sub.snap b=some o
 | _=>False
def Owned (H:List HO)(loc:Nat->Loc)(b:Nat):Prop:=∃nm o,H[nm]? =some o/\Owns (loc nm) o b
def qW (G:Ctx)(H:List HO)(loc:Nat->Loc)(w:World)(b:Nat):Prop:=(G.ok0 b\/G.mine b\/G.w0.heap.size<=b)/\b<w.heap.size/\¬Owned H loc b
def BL (H:List HO)(loc:Nat->Loc)(nm b:Nat):Prop:=H[nm]? =some .gone/\(loc nm).al b
def Jl (H:List HO)(loc:Nat->Loc)(b:Nat):Prop:=∃nm st n it,H[nm]? =some (.yst st n it)/\(loc nm).al b
def envOf (G:Ctx)(H:List HO)(loc:Nat->Loc)(ver:Nat->Nat)(w:World):Env:=⟨w,qW G H loc w,lE H,loc,ver,BL H loc,Jl H loc,G.itr⟩
def EntsR (w:World)(ok:Nat->Prop)(k:IntKind)(t:Ty):List (Nat × Int × t.T)->List MapEntry->Prop
 | [],[]=>True
 | x::r,e::r'=>(e.born=x.1/\e.key= .int k x.2.1/\inK k x.2.1/\Reads w ok t x.2.2 [e.val])/\EntsR w ok k t r r'
 | _,_=>False
def RowAt (E:Env)(al:Nat->Prop)(t:Ty)(ei:TypeId)(h:Value)(xs:List t.T):Prop:=
 ∃vs,E.w.ownsR 0 ei t.size h xs.length vs/\(∀b,h.ownBlock=some b->al b)/\∀i,i<xs.length->Reads E.w E.ok t (getD (α:=t.T) xs i t.dflt) ((vs.drop (i*t.size)).take t.size)
structure Rows (E:Env) (L:Loc) (t:Ty) (ei:TypeId) (xss:List (List t.T)) (pend:Option (Nat × List t.T)):Prop where
 flat:t.flat=true
 row:∀i,i<xss.length->(∀j ys,pend=some (j,ys)->i≠j)->RowAt E L.al t ei (L.sub.rows i) (xss.getD i [])
 apart:∀i j,i<xss.length->j<xss.length->(∀k ys,pend=some (k,ys)->i≠k/\j≠k)->i≠j->∀b,(L.sub.rows i).ownBlock=some b->(L.sub.rows j).ownBlock≠some b
 grown:∀j ys,pend=some (j,ys)->j<xss.length/\RowAt E L.al t ei L.sub.pnd ys/\∀i,i<xss.length->i≠j->∀b,L.sub.pnd.ownBlock=some b->(L.sub.rows i).ownBlock≠some b
 short:∀i,i<xss.length->(xss.getD i []).length<=maxL
def OSat (E:Env)(L:Loc)(v:Nat):HO->Prop
 | .dead=>True
 | .res=>True
 | .cells l e=>v=0/\∃b vs,L.blk=some (b,0)/\E.w.heap[b]? =some (.cells ⟨vs⟩ e (0,0))/\RelL E l vs
 | .vec k t xs e=>v=k/\0<k/\L.len=length (α:=t.T) xs/\L.len<=maxL/\
   ∃vs,E.w.ownsR 0 e t.size L.head L.len vs/\∀i,i<L.len->Reads E.w E.ok t (getD (α:=t.T) xs i t.dflt) ((vs.drop (i*t.size)).take t.size)
 | .fro k t xs=>v=k/\0<k/\Reads E.w E.ok (.slice t) xs [L.head]
 | .map k t m=>v=0/\m.Wf/\m.es.length<=maxL/\∃b es,L.blk=some (b,0)/\E.w.heap[b]? =some (.map ⟨es⟩ m.clock)/\EntsR E.w E.ok k t m.es es
 | .qm ks l=>v=0/\ks.length<=maxL/\bare.bareL l=true/\∃b es c,L.blk=some (b,0)/\E.w.heap[b]? =some (.map ⟨es⟩ c)/\QmR ks es c/\RelL E l (es.map (·.val))
 | .frm ks l=>v=0/\bare.bareL l=true/\∃b es c,L.blk=some (b,0)/\E.ok b/\E.w.heap[b]? =some (.map ⟨es⟩ c)/\KeysR ks es/\RelL E l (es.map (·.val))
 | .mit m since seen c0=>v=0/\E.has m=true/\∃r bm,L.blk=some (r,0)/\E.w.heap[r]? =some (.mapIter (some bm) since ⟨seen⟩ c0)/\(E.ver m=0->(E.loc m).blk=some (bm,0))
 | .vv k s t xss pend eo ei=>v=k/\0<k/\L.sub.v=s/\L.len=xss.length/\L.len<=maxL/\
   (∃vs,E.w.ownsR 0 eo 1 L.head L.len vs/\∀i,i<L.len->vs[i]? =some (L.sub.rows i))/\(∀b,L.al b->b<E.w.heap.size/\L.blk.map (·.1)≠some b/\∃c e,E.w.heap[b]? =some (.cells c e (0,0)))/\Rows E L t ei xss pend
 | .frc l=>v=0/\∃b vs e,L.blk=some (b,0)/\E.ok b/\E.w.heap[b]? =some (.cells ⟨vs⟩ e (0,0))/\RelL E l vs
 | .gone=>0<v/\∀b,L.al b->b<E.w.heap.size
 | .lnt k t xs=>v=k/\0<k/\L.sub.v=0/\(∀b o,L.sub.snap b=some o->isBook o=false/\E.w.heap[b]? =some o)/\Reads E.w (fun b=>∃o,L.sub.snap b=some o) (.slice t) xs [L.sub.pnd]
 | .yst st n it=>0<v/\(∀b,L.al b->b<E.w.heap.size)/\E.itr.n0<=E.w.heap.size/\n=E.itr.n/\it=E.itr.items/\
   (∀b,b<E.itr.n0->¬L.al b->E.itr.ok b/\E.ok b)/\
   E.itr.J st (fun b=>E.itr.n0<=b/\b<E.w.heap.size/\¬L.al b) E.w
structure Inv (G:Ctx) (H:List HO) (loc:Nat->Loc) (ver:Nat->Nat) (w:World):Prop where
 size:G.w0.heap.size<=w.heap.size
 os:w.os=G.w0.os
 tape:w.tape=G.w0.tape
 output:w.output=G.w0.output
 frame:∀b,b<G.w0.heap.size->¬G.mine b->w.heap[b]? =G.w0.heap[b]?
 objs:∀nm o,H[nm]? =some o->OSat (envOf G H loc ver w) (loc nm) (ver nm) o
 own:∀b,Owned H loc b->G.mine b\/G.w0.heap.size<=b
 sep:∀nm nm' o o' b,H[nm]? =some o->H[nm']? =some o'->Owns (loc nm) o b->Owns (loc nm') o' b->nm=nm'
open Go.RowKit
theorem OSat.block {E:Env}{L:Loc}{v:Nat}{o:HO}{b:Nat}(h:OSat E L v o)(f:Owns L o b):b<E.w.heap.size:=by
 cases o with
 | dead=>cases f
 | fro=>cases f
 | res=>cases f
 | frc=>cases f
 | frm=>cases f
 | qm ks l=>
  obtain ⟨_,_,_,z,B,c,y,u,_⟩:=h;simp[Owns,y] at f;subst f;exact (aH.1 u).1
 | gone=>exact h.2 b f
 | lnt k t xs=>
  obtain ⟨o,C⟩:=f;exact (aH.1 (h.2.2.2.1 b o C).2).1
 | yst st n it=>exact h.2.1 b f
 | cells l e=>
  obtain ⟨_,z,vs,y,u,_⟩:=h;simp[Owns,y] at f;subst f;exact (aH.1 u).1
 | map k t m=>
  obtain ⟨_,_,_,z,B,y,u,_⟩:=h;simp[Owns,y] at f;subst f;exact (aH.1 u).1
 | mit m s l c=>
  obtain ⟨_,_,z,D,y,u,_⟩:=h;simp[Owns,y] at f;subst f;exact (aH.1 u).1
 | vv k s t xss pend eo ei=>
  obtain ⟨_,_,_,_,_,⟨vs,u,_⟩,x,_⟩:=h;rcases f with f | f
  ·rcases cW u with ⟨x,_⟩ | ⟨g,cur,x,_,A,_⟩
   ·simp[x] at f
   simp[x] at f;subst f;exact (aH.1 A).1
  exact (x b f).1
 | vec k t xs e=>
  obtain ⟨_,_,_,_,vs,u,_⟩:=h;rcases cW u with ⟨x,_⟩ | ⟨g,cur,x,_,A,_⟩
  ·simp[Owns,x] at f
  simp[Owns,x] at f;subst f;exact (aH.1 A).1
theorem OSat.isBook {E:Env}{L:Loc}{v:Nat}{o:HO}{b:Nat}(h:OSat E L v o)(f:Owns L o b)(A:o≠ .gone)(y:∀st n D,o≠ .yst st n D){x:Obj}(u:E.w.heap[b]? =some x):isBook x=false:=by
 cases o with
 | dead=>cases f
 | fro=>cases f
 | res=>cases f
 | frc=>cases f
 | gone=>exact (A rfl).elim
 | lnt k t xs=>
  obtain ⟨o,K⟩:=f;have z:=h.2.2.2.1 b o K;rw[u] at z;obtain ⟨B,J⟩:=z;cases J;exact B
 | yst st n D=>exact (y _ _ _ rfl).elim
 | cells l e=>
  obtain ⟨_,C,vs,A,y,_⟩:=h;simp[Owns,A] at f;subst f;rw[y] at u;cases u;rfl
 | frm=>cases f
 | qm ks l=>
  obtain ⟨_,_,_,C,F,c,A,y,_⟩:=h;simp[Owns,A] at f;subst f;rw[y] at u;cases u;rfl
 | map k t m=>
  obtain ⟨_,_,_,C,F,A,y,_⟩:=h;simp[Owns,A] at f;subst f;rw[y] at u;cases u;rfl
 | mit m s l c=>
  obtain ⟨_,_,C,W,A,y,_⟩:=h;simp[Owns,A] at f;subst f;rw[y] at u;cases u;rfl
 | vv k s t xss pend eo ei=>
  obtain ⟨_,_,_,_,_,⟨vs,y,_⟩,z,_⟩:=h;rcases f with f | f
  ·rcases cW y with ⟨z,_⟩ | ⟨g,cur,z,_,B,_⟩
   ·simp[z] at f
   simp[z] at f;subst f;rw[B] at u;cases u;rfl
  obtain ⟨_,_,c,e,B⟩:=z b f;rw[B] at u;cases u;rfl
 | vec k t xs e=>
  obtain ⟨_,_,_,_,vs,y,_⟩:=h;rcases cW y with ⟨z,_⟩ | ⟨g,cur,z,_,B,_⟩
  ·simp[Owns,z] at f
  simp[Owns,z] at f;subst f;rw[B] at u;cases u;rfl
theorem EntsR.mono {w w':World}{ok ok':Nat->Prop}(c:∀a v,ok a.block->w.cell? a=some v->w'.cell? a=some v)(e:∀b,ok b->ok' b){k:IntKind}{t:Ty}:∀ {xs:List (Nat × Int × t.T)} {es:List MapEntry},EntsR w ok k t xs es->EntsR w' ok' k t xs es
 | [],[],_=>trivial
 | _:: _,_:: _,h=>⟨⟨h.1.1,h.1.2.1,h.1.2.2.1,h.1.2.2.2.mono c e⟩,EntsR.mono c e h.2⟩
theorem Lu {w w':World}{base:Nat}{e:TypeId}{size n:Nat}{v:Value}{vs:List Value}(h:w.ownsR base e size v n vs)(u:∀b,v.ownBlock=some b->w'.heap[b]? =w.heap[b]?):w'.ownsR base e size v n vs:=by
 refine ⟨h.1,?_⟩;rcases h.2 with c | ⟨g,f,cur,c,m,o,s⟩
 ·exact .inl c
 refine .inr ⟨g,f,cur,c,m,?_,s⟩;rw[u g (by rw[c];rfl)];exact o
theorem RowAt.ext {E E':Env}(x:Ext0 E E'){c:Nat->Prop}{t:Ty}{e:TypeId}{h:Value}{xs:List t.T}(o:RowAt E c t e h xs)(s:∀b,c b->E'.w.heap[b]? =E.w.heap[b]?):RowAt E' c t e h xs:=by
 obtain ⟨vs,g,f,m⟩:=o;exact ⟨vs,Lu g fun b n=>s b (f b n),f,fun i hi=>(m i hi).mono x.cell x.ok⟩
theorem Rows.ext {E E':Env}(x:Ext0 E E'){L:Loc}{t:Ty}{g:TypeId}{e:List (List t.T)}{c:Option (Nat × List t.T)}(h:Rows E L t g e c)(m:∀b,L.al b->E'.w.heap[b]? =E.w.heap[b]?):Rows E' L t g e c:=
 ⟨h.flat,fun i hi f=>(h.row i hi f).ext x m,h.apart,fun j ys f=>by obtain ⟨n,o,s⟩:=h.grown j ys f;exact ⟨n,o.ext x m,s⟩,h.short⟩
theorem OSat.ext {E E':Env}(x:Ext0 E E'){L:Loc}{v:Nat}{o:HO}(h:OSat E L v o)(F:∀b,Owns L o b->E'.w.heap[b]? =E.w.heap[b]?):OSat E' L v o:=by
 cases o with
 | dead=>trivial
 | res=>trivial
 | fro k t xs=>obtain ⟨u,z,y⟩:=h;exact ⟨u,z,y.mono x.cell x.ok⟩
 | frc l=>obtain ⟨u,b,vs,e,z,y,B,A⟩:=h;exact ⟨u,b,vs,e,z,x.ok b y,(x.blk _ y).trans B,A.ext0 x⟩
 | gone=>exact ⟨h.1,fun b f=>bE (h.2 b f) x.size⟩
 | lnt k t xs=>
  obtain ⟨u,z,y,B,A⟩:=h;refine ⟨u,z,y,fun b o f=>⟨(B b o f).1,(F b ⟨o,f⟩).trans (B b o f).2⟩,A.mono (fun a v ha hv=>?_) fun _ h=>h⟩;exact (World.cell?_of_block (F a.block ha)).trans hv
 | qm ks l=>
  obtain ⟨C,W,f,b,Z,c,u,z,y,B⟩:=h;exact ⟨C,W,f,b,Z,c,u,by rw[F b (by simp[Owns,u])];exact z,y,B.ext0 x⟩
 | frm ks l=>
  obtain ⟨C,f,b,Z,c,u,z,y,B,A⟩:=h;exact ⟨C,f,b,Z,c,u,x.ok b z,(x.blk _ z).trans y,B,A.ext0 x⟩
 | map k t m=>
  obtain ⟨C,hw,W,b,Z,u,z,y⟩:=h;exact ⟨C,hw,W,b,Z,u,by rw[F b (by simp[Owns,u])];exact z,y.mono x.cell x.ok⟩
 | mit m s l c=>
  obtain ⟨C,W,b,bm,u,z,y⟩:=h;refine ⟨C,x.num m W,b,bm,u,by rw[F b (by simp[Owns,u])];exact z,fun e=>?_⟩;rcases x.ver m W with ⟨e1,e2⟩ | ⟨e1,e2⟩
  ·rw[e2];exact y (by rw[<- e1];exact e)
  omega
 | vv k s t xss pend eo ei=>
  obtain ⟨u,z,y,B,A,⟨vs,Y,h7⟩,D,K⟩:=h;refine ⟨u,z,y,B,A,⟨vs,Lu Y fun b f=>F b (.inl ?_),h7⟩,fun b f=>?_,K.ext x fun b f=>F b (.inr f)⟩
  ·simp only[Core.head] at f;cases hL:L.blk with
   | none=>rw[hL] at f;cases f
   | some p=>rw[hL] at f;simpa [Value.ownBlock] using f
  obtain ⟨q1,q2,c,e,q3⟩:=D b f;exact ⟨bE q1 x.size,q2,c,e,by rw[F b (.inr f)];exact q3⟩
 | yst st n it=>
  obtain ⟨u,z,y,B,A,Y,h7⟩:=h;refine ⟨u,fun b f=>bE (z b f) x.size,by rw[x.itr];exact bA y x.size,by rw[x.itr];exact B,by rw[x.itr];exact A,fun b f X=>?_,?_⟩
  ·rw[x.itr] at f ⊢;obtain ⟨D,K⟩:=Y b f X;exact ⟨D,x.ok b K⟩
  rw[x.itr];have:=E.itr.abides st _ E.w E'.w h7 x.os x.tape x.output x.size fun b f W=>by
   by_cases X:L.al b
   ·exact F b X
   by_cases hn:b<E.itr.n0
   ·exact x.blk b (Y b hn X).2
   exact (W ⟨om,f,X⟩).elim
  refine cast (aR (fun M=>E.itr.J st M E'.w) (funext fun b=>propext ⟨?_,?_⟩)) this
  ·rintro (⟨D,K,h10⟩ | ⟨D,K⟩)
   ·exact ⟨D,bE K x.size,h10⟩
   exact ⟨bA y D,K,fun X=>by have:=z b X;omega⟩
  rintro ⟨D,K,h10⟩;by_cases a2:b<E.w.heap.size
  ·exact .inl ⟨D,a2,h10⟩
  exact .inr ⟨om,K⟩
 | cells l e=>
  obtain ⟨C,b,vs,u,z,y⟩:=h;exact ⟨C,b,vs,u,by rw[F b (by simp[Owns,u])];exact z,y.ext0 x⟩
 | vec k t xs e=>
  obtain ⟨C,a1,u,z,vs,y,B⟩:=h;refine ⟨C,a1,u,z,vs,?_,fun i hi=>(B i hi).mono x.cell x.ok⟩;refine ⟨y.1,?_⟩;rcases y.2 with A | ⟨g,a0,cur,A,Y,h7,D⟩
  ·exact .inl A
  refine .inr ⟨g,a0,cur,A,Y,?_,D⟩;rw[F g ?_];exact h7;simp only[Core.head,Value.slice.injEq] at A;cases hL:L.blk with
  | none=>rw[hL] at A;simp at A
  | some p=>rw[hL] at A;simp at A;simp[Owns,hL,A.1.1]
theorem iN {H:List HO}{nm:Nat}(h:lE H nm=true):nm<H.length:=by
 simp only[lE,aG] at h;simpa using h.1
theorem sD (H:List HO):lE H H.length=false:=by simp[lE]
theorem eJ {H:List HO}{nm:Nat}{o:HO}(h:H[nm]? =some o)(e:Cq o=false):lE H nm=true:=by
 have c:=(aK.1 h).1;unfold lE bX;rw[aB,h];simp[c,e]
theorem nI {H:List HO}{o:HO}(c:Cq o=false):lE (H++ [o]) H.length=true:=eJ si c
theorem Dg {H H':List HO}{nm:Nat}(h:H'[nm]? =H[nm]?)(c:lE H nm=true):lE H' nm=true:=by
 have f:=iN c;have e:nm<H'.length:=by
  apply aS;intro g;rw[cO om] at h;have:=List.getElem?_eq_none_iff.1 h.symm;omega
 simp only[lE,bX,aB,h,aG] at c ⊢;exact ⟨by simpa using e,c.2⟩
theorem Inv.turn0 {G:Ctx}{H H':List HO}{loc loc':Nat->Loc}{ver ver':Nat->Nat}{w w':World}(s:Inv G H loc ver w)(nm:Nat)(a7:H.length<=H'.length)(f:∀k,k≠nm->H'[k]? =H[k]? /\loc' k=loc k/\ver' k=ver k)(Z:lE H nm=true->lE H' nm=true)(C:lE H nm=true->(ver' nm=ver nm/\(loc' nm).toCore=(loc nm).toCore/\((loc' nm).sub=(loc nm).sub\/(loc nm).sub.v<(loc' nm).sub.v))\/(0<ver nm/\ver nm<ver' nm))(J:w.heap.size<=w'.heap.size)(a2:w'.os=w.os)(a3:w'.tape=w.tape)(A:w'.output=w.output)(z:∀b,b<w.heap.size->(∀o,H[nm]? =some o->¬Owns (loc nm) o b)->w'.heap[b]? =w.heap[b]?)(Y:∀o' b,H'[nm]? =some o'->Owns (loc' nm) o' b->(∃o,H[nm]? =some o/\Owns (loc nm) o b)\/w.heap.size<=b)(X:∀st n K b,H'[nm]? =some (.yst st n K)->(loc' nm).al b->(∃st n K,H[nm]? =some (.yst st n K)/\(loc nm).al b)\/w.heap.size<=b)(a0:Ext0 (envOf G H loc ver w) (envOf G H' loc' ver' w')->∀o',H'[nm]? =some o'->OSat (envOf G H' loc' ver' w') (loc' nm) (ver' nm) o'):
  Inv G H' loc' ver' w'/\Ext0 (envOf G H loc ver w) (envOf G H' loc' ver' w'):=by
 have B:∀b,Owned H' loc' b->Owned H loc b\/w.heap.size<=b:=by
  rintro b ⟨k,o,g,c⟩;by_cases e:k=nm
  ·subst e;rcases Y o b g c with ⟨o',u,m⟩ | h
   ·exact .inl ⟨_,o',u,m⟩
   exact .inr h
  obtain ⟨u,m,_⟩:=f k e;exact .inl ⟨k,o,by rw[<- u];exact g,by rw[<- m];exact c⟩
 have a1:∀b,qW G H loc w b->w'.heap[b]? =w.heap[b]? :=fun b c=>z b c.2.1 fun o ho E=>c.2.2 ⟨nm,o,ho,E⟩;have hx:Ext0 (envOf G H loc ver w) (envOf G H' loc' ver' w'):=by
  refine ⟨a1,fun b c=>⟨c.1,bE c.2.1 J,fun ho=>?_⟩,fun k g=>?_,fun k g=>?_,a2,a3,A,J,fun b=>?_,rfl,fun k g he=>?_⟩
  ·rcases B b ho with h | h
   ·exact c.2.2 h
   have:=c.2.1;omega
  ·by_cases e:k=nm
   ·subst e;exact Z g
   exact Dg (f k e).1 g
  ·by_cases e:k=nm
   ·subst e;exact (C g).imp (fun h=>⟨h.1,h.2.1⟩) id
   obtain ⟨_,m,D⟩:=f k e;exact .inl ⟨D,aR _ m⟩
  ·rintro ⟨k,st,n,K,g,c⟩;by_cases e:k=nm
   ·subst e;rcases X st n K b g c with ⟨a6,n',a5,u,m⟩ | h
    ·exact .inl ⟨k,a6,n',a5,u,m⟩
    exact .inr h
   obtain ⟨u,m,_⟩:=f k e;exact .inl ⟨k,st,n,K,by rw[<- u];exact g,by rw[<- m];exact c⟩
  have he:ver' k=ver k:=he;by_cases e:k=nm
  ·subst e;rcases C g with h | h
   ·exact h.2.2
   omega
  obtain ⟨_,m,_⟩:=f k e;exact .inl (aR _ m)
 have F:=a0 hx;refine ⟨⟨bA s.size J,a2.trans s.os,a3.trans s.tape,A.trans s.output,fun b c hm=>?_,fun k o g=>?_,fun b c=>?_,fun k k' o o' b g y c x=>?_⟩,hx⟩
 ·refine (z b (bE c s.size) fun o ho E=>?_).trans (s.frame b c hm);rcases s.own b ⟨nm,o,ho,E⟩ with h | h
  ·exact hm h
  omega
 ·by_cases e:k=nm
  ·subst e;exact F o g
  obtain ⟨u,m,D⟩:=f k e;rw[u] at g;rw[m,D];have hO:=s.objs k o g;refine hO.ext hx fun b c=>z b (hO.block c) fun o₁ ho₁ hb₁=>e (s.sep _ _ _ _ b g ho₁ c hb₁)
 ·rcases B b c with h | h
  ·exact s.own b h
  exact .inr (bA s.size h)
 have a4:∀k o,k≠nm->H'[k]? =some o->Owns (loc' k) o b->∀o',H'[nm]? =some o'->Owns (loc' nm) o' b->False:=by
  intro k o e g c o' y x;obtain ⟨u,m,_⟩:=f k e;rw[u] at g;rw[m] at c;rcases Y o' b y x with ⟨o₁,D,h4⟩ | h
  ·exact e (s.sep _ _ _ _ b g D c h4)
  have:=(s.objs k o g).block c;simp[envOf] at this;omega
 by_cases e:k=nm
 ·by_cases W:k'=nm
  ·rw[e,W]
  subst e;exact (a4 k' o' W y x o g c).elim
 by_cases W:k'=nm
 ·subst W;exact (a4 k o e g c o' y x).elim
 obtain ⟨u,m,_⟩:=f k e;obtain ⟨D,h4,_⟩:=f k' W;rw[u] at g;rw[m] at c;rw[D] at y;rw[h4] at x;exact s.sep _ _ _ _ b g y c x
theorem Inv.turn {G:Ctx}{H H':List HO}{loc loc':Nat->Loc}{ver ver':Nat->Nat}{w w':World}(Y:Inv G H loc ver w)(nm:Nat)(E:H.length<=H'.length)(s:∀k,k≠nm->H'[k]? =H[k]? /\loc' k=loc k/\ver' k=ver k)(D:lE H nm=true->lE H' nm=true)(X:lE H nm=true->(ver' nm=ver nm/\(loc' nm).toCore=(loc nm).toCore/\((loc' nm).sub=(loc nm).sub\/(loc nm).sub.v<(loc' nm).sub.v))\/(0<ver nm/\ver nm<ver' nm))(a4:w.heap.size<=w'.heap.size)(a3:w'.os=w.os)(a5:w'.tape=w.tape)(W:w'.output=w.output)(J:H[nm]? ≠some .gone)(K:lE H nm=true->H'[nm]? ≠some .gone)(a2:∀st n z b,H'[nm]? =some (.yst st n z)->(loc' nm).al b->(∃st n z,H[nm]? =some (.yst st n z)/\(loc nm).al b)\/w.heap.size<=b)(c:∀b,b<w.heap.size->(∀o,H[nm]? =some o->¬Owns (loc nm) o b)->w'.heap[b]? =w.heap[b]?)(a0:∀o' b,H'[nm]? =some o'->Owns (loc' nm) o' b->(∃o,H[nm]? =some o/\Owns (loc nm) o b)\/w.heap.size<=b)(F:Ext (envOf G H loc ver w) (envOf G H' loc' ver' w')->∀o',H'[nm]? =some o'->OSat (envOf G H' loc' ver' w') (loc' nm) (ver' nm) o'):
  Inv G H' loc' ver' w'/\Ext (envOf G H loc ver w) (envOf G H' loc' ver' w'):=by
 have u:∀k b,BL H loc k b->BL H' loc' k b/\w'.heap[b]? =w.heap[b]? :=by
  rintro k b ⟨g,hb⟩;have e:k≠nm:=fun e=>J (by rw[<- e];exact g);obtain ⟨A,B,_⟩:=s k e;refine ⟨⟨by rw[A];exact g,by rw[B];exact hb⟩,c b ((Y.objs k _ g).2 b hb) fun o ho Z=>?_⟩;exact e (Y.sep _ _ _ _ b g ho hb Z)
 have f:∀k b,lE H k=true->BL H' loc' k b->BL H loc k b:=by
  rintro k b hlt ⟨g,hb⟩;by_cases e:k=nm
  ·subst e;exact (K hlt g).elim
  obtain ⟨A,B,_⟩:=s k e;exact ⟨by rw[<- A];exact g,by rw[<- B];exact hb⟩
 have m:∀(k:Nat) (o:Obj),¬Jl H loc k->w.heap[k]? =some o->isBook o=true->w'.heap[k]? =some o:=by
  intro k o a1 g ho;refine (c k (aH.1 g).1 fun o' y C=>?_).trans g;have hy:∀st n z,o'≠ .yst st n z:=by rintro st n z rfl;exact a1 ⟨nm,st,n,z,y,C⟩
  have:=(Y.objs nm o' y).isBook C (fun e=>J (by rw[y,e])) hy (x:=o) g;rw[ho] at this;cases this
 obtain ⟨A,B⟩:=Y.turn0 nm E s D X a4 a3 a5 W c a0 a2 (fun x=>F ⟨x,m,u,f⟩);exact ⟨A,⟨B,m,u,f⟩⟩
def sV {α:Type}(f:Nat->α)(n:Nat)(x:α):Nat->α:=fun k=>if k=n then x else f k
theorem bF {α:Type}(f:Nat->α)(n:Nat)(x:α):sV f n x n=x:=aE rfl
theorem dJ {α:Type}(f:Nat->α)(n:Nat)(x:α){k:Nat}(h:k≠n):sV f n x k=f k:=aD h
theorem gG {H:List HO}{o:HO}:(H++ [o])[H.length]? =some o:=by simp
theorem gU {H:List HO}{o:HO}{k:Nat}(h:k≠H.length):(H++ [o])[k]? =H[k]? :=by
 rcases Nat.lt_or_ge k H.length with c | c
 ·rw[bN c]
 rw[cN c,cO (l:=H) om];have:k-H.length≠0:=om;cases hk:k-H.length with
 | zero=>omega
 | succ m=>rfl
theorem aP {H:List HO}{nm:Nat}{o:HO}(h:nm<H.length):(H.set nm o)[nm]? =some o:=by simp[h]
theorem bS {H:List HO}{nm k:Nat}{o:HO}(h:k≠nm):(H.set nm o)[k]? =H[k]? :=by
 rw[fY];simp[Ne.symm h]
theorem Inv.fresh {G:Ctx}{H:List HO}{loc:Nat->Loc}{ver:Nat->Nat}{w w':World}(C:Inv G H loc ver w)(o:HO)(L:Loc)(v:Nat)(z:w.heap.size<=w'.heap.size)(y:w'.os=w.os)(A:w'.tape=w.tape)(g:w'.output=w.output)(e:∀b,b<w.heap.size->w'.heap[b]? =w.heap[b]?)(s:∀b,Owns L o b->w.heap.size<=b)(f:Ext (envOf G H loc ver w) (envOf G (H++ [o]) (sV loc H.length L) (sV ver H.length v) w')->OSat (envOf G (H++ [o]) (sV loc H.length L) (sV ver H.length v) w') L v o)(x:∀st n B,o≠ .yst st n B:=by intro _ _ _ h;cases h):
  Inv G (H++ [o]) (sV loc H.length L) (sV ver H.length v) w'/\Ext (envOf G H loc ver w) (envOf G (H++ [o]) (sV loc H.length L) (sV ver H.length v) w'):=by
 refine C.turn H.length si (fun k u=>⟨gU u,dJ _ _ _ u,dJ _ _ _ u⟩) (fun h=>by rw[sD] at h;cases h) (fun h=>by rw[sD] at h;cases h) z y A g si (fun h=>by rw[sD] at h;cases h) (fun st n B b h=>by rw[gG] at h;cases h;exact (x _ _ _ rfl).elim) (fun b m _=>e b m) ?_ ?_
 ·intro E b c m;rw[gG] at c;cases c;rw[bF] at m;exact .inr (s b m)
 intro D E c;rw[gG] at c;cases c;rw[bF,bF];exact f D
theorem Inv.inPlace {G:Ctx}{H:List HO}{loc:Nat->Loc}{ver:Nat->Nat}{w w':World}(F:Inv G H loc ver w){nm:Nat}{o o':HO}{b:Nat}(x:H[nm]? =some o)(J:Owns (loc nm) o b)(B:∀f,Owns (loc nm) o' f->Owns (loc nm) o f)(W:w'.heap.size=w.heap.size)(C:w'.os=w.os)(D:w'.tape=w.tape)(u:w'.output=w.output)(g:∀f,f≠b->w'.heap[f]? =w.heap[f]?)(m:Ext (envOf G H loc ver w) (envOf G (H.set nm o') loc ver w')->OSat (envOf G (H.set nm o') loc ver w') (loc nm) (ver nm) o')(y:o≠ .gone:=by intro h;cases h)(s:o'≠ .gone:=by intro h;cases h)(z:Cq o'=false:=by rfl)(A:∀st n E,o'≠ .yst st n E:=by intro _ _ _ h;cases h):
  Inv G (H.set nm o') loc ver w'/\Ext (envOf G H loc ver w) (envOf G (H.set nm o') loc ver w'):=by
 have c:nm<H.length:=(aK.1 x).1;refine F.turn nm si (fun k K=>⟨bS K,rfl,rfl⟩) (fun _=>eJ (aP c) z) (fun _=>.inl ⟨rfl,rfl,.inl rfl⟩) om C D u (by rw[x];intro h;cases h;exact y rfl) (fun _=>by rw[aP c];intro h;cases h;exact s rfl) (fun st n E b h=>by rw[aP c] at h;cases h;exact (A _ _ _ rfl).elim) (fun f _ h=>g f fun e=>h o x (by rw[e];exact J)) ?_ ?_
 ·intro o₁ b₁ ho₁ hb₁;rw[aP c] at ho₁;cases ho₁;exact .inl ⟨o,x,B _ hb₁⟩
 intro X o₁ ho₁;rw[aP c] at ho₁;cases ho₁;exact m X
theorem Inv.grow {G:Ctx}{H:List HO}{loc:Nat->Loc}{ver:Nat->Nat}{w w':World}(f:Inv G H loc ver w)(e:Below w.heap.size w w'):
  Inv G H loc ver w'/\Ext (envOf G H loc ver w) (envOf G H loc ver w'):=by
 refine f.turn H.length (aI _) (fun _ _=>⟨rfl,rfl,rfl⟩) (fun h=>h) (fun h=>by rw[sD] at h;cases h) e.size e.os e.tape e.output si (fun h=>by rw[sD] at h;cases h) (fun st n m b h=>by simp at h) (fun b h _=>e.block b h) ?_ ?_
 ·intro g b c;simp at c
 intro _ g c;simp at c
def Res (G:Ctx)(E:Env)(K:SV->List HO->Prop)(v:Value)(w':World):Prop:=
 ∃s H' loc' ver',K s H'/\Inv G H' loc' ver' w'/\Rel (envOf G H' loc' ver' w') s v/\Ext E (envOf G H' loc' ver' w')
theorem Res.pure {G:Ctx}{H:List HO}{loc:Nat->Loc}{ver:Nat->Nat}{w:World}(c:Inv G H loc ver w){K:SV->List HO->Prop}{s:SV}{v:Value}(e:K s H)(f:Rel (envOf G H loc ver w) s v):Res G (envOf G H loc ver w) K v w:=
 ⟨s,H,loc,ver,e,c,f,Ext.refl _⟩
def Opn (F:Fence):Prop:=∃ro,F= { Fence.wide with round:=ro }
theorem Opn.fn {F:Fence}(h:Opn F)(f:FuncId):F.fn f:=by obtain ⟨c,rfl⟩:=h;trivial
theorem Opn.depth {F:Fence}(h:Opn F):F.depth=none:=by obtain ⟨c,rfl⟩:=h;rfl
theorem Opn.calls {F:Fence}(h:Opn F){n:Nat}{P:Program}{f:FuncId}{args:Array Value}{w:World}{R:Ending->World->Prop}(c:Calls P f args w R):CallsIn F n P f args w R:=by
 obtain ⟨e,rfl⟩:=h;exact callsIn_wide.2 c
inductive OpOK (P:Program) (F:Fence) (o:Oper) (a:Act) (w:World) (R:Value->World->Prop):Prop where
 | value (v:Value) (w':World) (hr:(execOp a.eval o).run P w= .ok (.value v) w') (h:R v w'):OpOK P F o a w R
 | skip (w':World) (hr:(execOp a.eval o).run P w= .ok .skip w') (h:R undef w'):OpOK P F o a w R
 | yield (l:Nat) (args:Array Value) (hr:(execOp a.eval o).run P w=(Instr.yield l args).run P w) (h:YieldAt Fence.wide 0 P l args w fun e w'=>∃v,e= .returned v/\R v w'):OpOK P F o a w R
 | call (f:FuncId) (args:Array Value) (hr:(execOp a.eval o).run P w= .ok (.enter f args) w) (h:∀n,CallsIn F n P f args w fun e w'=>∃v,e= .returned v/\R v w'):OpOK P F o a w R
theorem OpOK.mono {P:Program}{F:Fence}{o:Oper}{a:Act}{w:World}{R g:Value->World->Prop}(h:OpOK P F o a w R)(c:∀v w',R v w'->g v w'):OpOK P F o a w g:=by
 cases h with
 | value v w' h1 h2=>exact .value v w' h1 (c _ _ h2)
 | skip w' h1 h2=>exact .skip w' h1 (c _ _ h2)
 | yield l args h1 h2=>exact .yield l args h1 (h2.mono fun e w' ⟨v,he,h⟩=>⟨v,he,c _ _ h⟩)
 | call f args h1 h2=>exact .call f args h1 fun n=>(h2 n).mono fun e w' ⟨v,he,h⟩=>⟨v,he,c _ _ h⟩
theorem OpOK.wpIn {P:Program}{F:Fence}{n:Nat}{o:Oper}{a:Act}{w:World}{R:Value->World->Prop}{next:Act->World->Prop}{Q:Exit->Act->World->Prop}(s:Opn F)(A:∀c,o.op≠ .defer c)(h:OpOK P F o a w R)(u:∀v w',R v w'->next (a.put o.dst v) w'):o.wpIn F n P a w next Q:=by
 refine ⟨fun f _=>s.fn f,?_⟩;rw[Oper.semAt_eq _ _ _ A];cases h with
 | value v w' h1 h2=>rw[h1];exact u _ _ h2
 | skip w' h1 h2=>rw[h1];exact u _ _ h2
 | yield l args h1 h2=>
  obtain ⟨fn,y,m,body,B,x⟩:=h2;rw[h1,B];refine ⟨fun g=>(by rw[s.depth] at g;cases g),?_⟩;obtain ⟨C,rfl⟩:=s;refine RoundIn.mono (R:=fun e w'=>∃v,e= .returned v/\R v w') ⟨x.1,fun c z _=>x.2 c z (fun d h=>by cases h)⟩ ?_;rintro e w' ⟨v,rfl,h⟩;exact u _ _ h
 | call f args h1 h2=>
  rw[h1];refine ⟨fun g=>(by rw[s.depth] at g;cases g),(h2 _).mono ?_⟩;rintro e w' ⟨v,rfl,h⟩;exact u _ _ h
open Go.RowKit
theorem xN {k:IntKind}{n:Int}(h:inK k n):k.wrap n=n:=by
 obtain ⟨c,e⟩:=h;cases k<;>simp only[lo,hi] at c e<;>simp only[IntKind.wrap,IntKind.bits,IntKind.signed]<;>simp<;>omega
theorem Rel.int_inv {E:Env}{k:IntKind}{n:Int}{v:Value}(h:Rel E (.val (.int k n)) v):v= .int k n/\inK k n:=by
 cases h with
 | val _ hw=>exact ⟨rfl,hw⟩
theorem Rel.bool_inv {E:Env}{b:Bool}{v:Value}(h:Rel E (.val (.bool b)) v):v= .bool b:=by cases h;rfl
theorem DZ (E:Env)(v:Value):Rel E (HY v) v:=by
 cases v with
 | int k n=>
  simp only[HY];cases h:(decide (lo k<=n)&&decide (n<=hi k)) with
  | true=>simp at h;exact .val _ ⟨h.1,h.2⟩
  | false=>exact .any _
 | string s=>
  simp only[HY];cases h:Nat.ble s.data.toList.length 140737488355328 with
  | true=>
   have c:s= ⟨s.data.toList.toArray⟩:=by cases s;simp
   conv=>rhs;rw[c]
   exact .str _ (fI h)
  | false=>exact .any _
 | _=>exact .val _ trivial
theorem bM {a b:Nat}:Nat.beq a b=true↔a=b:=by rw[Nat.beq_eq]
theorem lY {a b:Nat}(h:a≠b):Nat.beq a b=false:=by
 cases e:Nat.beq a b with
 | false=>rfl
 | true=>exact absurd (bM.1 e) h
theorem iF (a:Nat):Nat.beq a a=true:=bM.2 rfl
theorem qB (l:List (Nat × SV))(t u:Nat)(v:SV):look (put l t v) u=if u=t then v else look l u:=by
 induction l with
 | nil=>
  simp only[put,look];by_cases e:u=t
  ·subst e;simp[iF]
  simp[lY (Ne.symm e),e]
 | cons p r ih=>
  obtain ⟨i,x⟩:=p;simp only[put];by_cases e:i=t
  ·subst e;rw[iF];simp only[bP,look];by_cases e2:u=i
   ·subst e2;simp[iF]
   simp[lY (Ne.symm e2),e2]
  rw[lY e];simp only[cM,look];by_cases e2:i=u
  ·subst e2;simp[iF,e]
  rw[lY e2];simp only[cM];exact ih
structure TRel (E:Env) (N:Nat) (l:List (Nat × SV)) (a:Act):Prop where
 size:a.tmps.size=N
 rel:∀t,Rel E (look l t) (a.tmps.getD t undef)
theorem TRel.ext0 {E E':Env}{N:Nat}{l:List (Nat × SV)}{a:Act}(h:TRel E N l a)(x:Ext0 E E'):TRel E' N l a:=⟨h.size,fun t=>(h.rel t).ext0 x⟩
theorem TRel.ext {E E':Env}{N:Nat}{l:List (Nat × SV)}{a:Act}(h:TRel E N l a)(x:Ext E E'):TRel E' N l a:=⟨h.size,fun t=>(h.rel t).ext x⟩
theorem zX (a:Act)(d t:Nat)(v:Value)(h:d<a.tmps.size):(a.put (some d) v).tmps.getD t undef=if t=d then v else a.tmps.getD t undef:=by
 simp only[Act.put,bQ];rw[cS];by_cases e:t=d
 ·subst e;simp[h]
 have:¬d=t:=fun h=>e h.symm;simp[this,e]
theorem TRel.put {E:Env}{N:Nat}{l:List (Nat × SV)}{a:Act}(h:TRel E N l a){d:Nat}(c:d<N){s:SV}{v:Value}(f:Rel E s v):TRel E N (put l d s) (a.put (some d) v):=by
 refine ⟨by simp[Act.put,h.size],fun t=>?_⟩;rw[qB,zX a d t v (by rw[h.size];exact c)];by_cases e:t=d
 ·rw[aE e,aE e];exact f
 rw[aD e,aD e];exact h.rel t
theorem TRel.any {E:Env}{N:Nat}{l:List (Nat × SV)}{a:Act}(h:TRel E N l a)(o:Option Nat){v:Value}{K:List (Nat × SV)->Prop}{s:SV}(c:wC N l o s K)(f:Rel E s v):∃e,K e/\TRel E N e (a.put o v):=by
 cases o with
 | none=>exact ⟨l,c,h⟩
 | some t=>
  simp only[wC] at c;cases hb:Nat.blt t N with
  | false=>rw[hb] at c;cases c
  | true=>
   rw[hb] at c;simp only[bP,cD] at c;exact ⟨_,c,h.put (by simpa using hb) f⟩
theorem oZ {E:Env}{N:Nat}{l:List (Nat × SV)}{a:Act}(h:TRel E N l a)(x:Operand):Rel E (ev l x) (a.eval x):=by
 cases x with
 | tmp t=>exact h.rel t
 | const v=>exact DZ E v
 | global g=>exact .any _
 | func f=>exact .clo f [] [] [] [] .nil .nil
theorem Bm {E:Env}{N:Nat}{l:List (Nat × SV)}{a:Act}(h:TRel E N l a)(xs:List Operand):RelL E (xs.map (ev l)) (xs.map a.eval):=by
 induction xs with
 | nil=>exact .nil
 | cons x r ih=>exact .cons _ _ _ _ (oZ h x) ih
theorem sW (P:Program)(w:World)(c:BinOp)(t:TypeId)(x y:Operand)(k k':IntKind)(a b:Int):(eqGuard c t x y (.int k a) (.int k' b)).run P w= .ok () w:=by
 cases c<;>simp[eqGuard]
theorem wJ (k:IntKind)(n:Int):inK k (k.wrap n):=by
 cases k<;>simp only[inK,IntKind.wrap,lo,hi,IntKind.bits,IntKind.signed]<;>simp<;>omega
theorem Pn {P:Program}{w:World}{E:Env}{g:BinOp}{k k':IntKind}{a b:Int}{K:SV->Prop}(h:Sc g k a b K)(o:inK k a)(t:TypeId):
  ∃v s,(binOp g t (.int k a) (.int k' b)).run P w= .ok v w/\K s/\Rel E s v:=by
 cases g<;>simp only[Sc] at h;case shl=>
  obtain ⟨n,f⟩:=h;exact ⟨_,_,by simp[binOp,Op.shift,show ¬b<0 by omega,VI],f,.val _ (wJ _ _)⟩
 case shr=>
  obtain ⟨n,f⟩:=h;refine ⟨.int k (H8 k a b),_,by simp[binOp,Op.shift,show ¬b<0 by omega,H8],f,.val _ ?_⟩;obtain ⟨y,z⟩:=o;have u:lo k<=0:=by cases k<;>simp[lo]
  have x:0<=hi k:=by cases k<;>simp[hi]
  have c:(0:Int)<2^ (min b.toNat k.bits):=Ay de;have e:H8 k a b=a/2^ (min b.toNat k.bits):=Int.fdiv_eq_ediv_of_nonneg _ (eM c);rw[e];generalize (2:Int)^ (min b.toNat k.bits)=q at c;by_cases m:0<=a
  ·have e1:0<=a/q:=eF m om;have e2:a/q<=a:=rV q m;exact ⟨om,om⟩
  have e1:a<=a/q:=by
   refine Int.le_ediv_of_mul_le c ?_;have:a*q<=a*1:=lV om om;omega
  have e2:a/q<0:=Int.ediv_neg_of_neg_of_pos om c;exact ⟨om,om⟩
 all_goals exact h.elim
theorem Xh {P:Program}{w:World}{E:Env}{c:BinOp}{k:IntKind}{a b:Int}{K:SV->Prop}(h:IA c k K)(t:TypeId):
  ∃v s,(binOp c t (.int k a) (.int k b)).run P w= .ok v w/\K s/\Rel E s v:=by
 cases c<;>simp only[IA] at h;case add=>exact ⟨.int k (k.wrap (a+b)),_,by simp[binOp,Op.intArith],h,.num k _ (wJ _ _)⟩
 case lss=>exact ⟨.bool (@decide (a<b) Cp),_,by simp[binOp,Op.intCmp],h _,.bl _ _⟩
 case leq=>exact ⟨.bool (@decide (a<=b) Cp),_,by simp[binOp,Op.intCmp],h _,.bl _ _⟩
 case gtr=>exact ⟨.bool (@decide (b<a) Cp),_,by simp[binOp,Op.intCmp],h _,.bl _ _⟩
 case geq=>exact ⟨.bool (@decide (b<=a) Cp),_,by simp[binOp,Op.intCmp],h _,.bl _ _⟩
 all_goals exact h.elim
theorem Xi {P:Program}{w:World}{E:Env}{n:BinOp}{k:IntKind}{a b:Int}{K:SV->Prop}(h:H9 n k a b K)(o:inK k a)(y:inK k b)(t:TypeId):
  ∃v s,(binOp n t (.int k a) (.int k b)).run P w= .ok v w/\K s/\Rel E s v:=by
 cases n<;>simp only[H9] at h;case add=>obtain ⟨c,f⟩:=Bd h;exact ⟨_,_,by simp[binOp,Op.intArith,xN c],f,.val _ c⟩
 case sub=>obtain ⟨c,f⟩:=Bd h;exact ⟨_,_,by simp[binOp,Op.intArith,xN c],f,.val _ c⟩
 case mul=>obtain ⟨c,f⟩:=Bd h;exact ⟨_,_,by simp[binOp,Op.intArith,xN c],f,.val _ c⟩
 case and=>exact ⟨_,_,by simp[binOp,Op.intBits,Hv],h,.val _ (wJ _ _)⟩
 case or=>exact ⟨_,_,by simp[binOp,Op.intBits,Hv],h,.val _ (wJ _ _)⟩
 case xor=>exact ⟨_,_,by simp[binOp,Op.intBits,Hv],h,.val _ (wJ _ _)⟩
 case andNot=>exact ⟨_,_,by simp[binOp,Op.intBits,Hv],h,.val _ (wJ _ _)⟩
 case quo=>
  rcases h.or with h | h;case inr=>
   obtain ⟨c,f⟩:=h;obtain ⟨g,m⟩:=Bd f;exact ⟨_,_,by simp[binOp,Op.intDiv,c,xN g],m,.val _ g⟩
  obtain ⟨⟨c,f⟩,g⟩:=h;have m:inK k (a/b):=by
   have e1:0<=a/b:=eF c om;have e2:a/b<=a:=rV b c;obtain ⟨u,x⟩:=o
   exact ⟨by have:lo k<=0:=by cases k<;>simp[lo]
             omega,om⟩
  exact ⟨_,_,by simp[binOp,Op.intDiv,show b≠0 by omega,nV c,xN m],g,.val _ m⟩
 case rem=>
  rcases h.or with h | h;case inr=>
   obtain ⟨c,f⟩:=h;refine ⟨_,_,by simp[binOp,Op.intDiv,c],f,.val _ ?_⟩;obtain ⟨u,x⟩:=o;have A:lo k<=0:=by cases k<;>simp[lo]
   have J:0<=hi k:=by cases k<;>simp[hi]
   by_cases z:0<=a
   ·have e1:=sZ b z;have e2:a.tmod b<=a:=by
     have:=kK a b;have:=Nat.mod_le a.natAbs b.natAbs;omega
    exact ⟨om,om⟩
   have e2:a.tmod b<=0/\a<=a.tmod b:=by
    have B:(-a).tmod b= -(a.tmod b):=Int.neg_tmod a b;have C:=sZ b (show 0<= -a by omega);have D:=kK (-a) b;have F:=Nat.mod_le (-a).natAbs b.natAbs;omega
   exact ⟨om,om⟩
  obtain ⟨⟨c,f⟩,g⟩:=h;have m:inK k (a%b):=by
   have e1:0<=a%b:=jJ a om;have e2:a%b<b:=fQ a f;obtain ⟨u,x⟩:=y
   exact ⟨by have:lo k<=0:=by cases k<;>simp[lo]
             omega,om⟩
  exact ⟨_,_,by simp[binOp,Op.intDiv,show b≠0 by omega,gZ c],g,.val _ m⟩
 case eql=>exact ⟨_,_,by simp[binOp,Op.intCmp];rfl,h,.bl _ _⟩
 case neq=>
  refine ⟨_,_,by simp[binOp,Op.intCmp];rfl,h,?_⟩;have e:(a != b)=decide (¬a=b):=by by_cases e:a=b<;>simp[e]
  rw[e];exact .bl _ _
 case lss=>exact ⟨_,_,by simp[binOp,Op.intCmp],h,.bl _ _⟩
 case leq=>exact ⟨_,_,by simp[binOp,Op.intCmp],h,.bl _ _⟩
 case gtr=>exact ⟨_,_,by simp[binOp,Op.intCmp],h,.bl _ _⟩
 case geq=>exact ⟨_,_,by simp[binOp,Op.intCmp],h,.bl _ _⟩
 all_goals exact h.elim
theorem OC {k:IntKind}{a b:Int}(c:inK k a)(e:inK k b):inK k (max a b):=by
 obtain ⟨f,g⟩:=c;obtain ⟨m,n⟩:=e;exact ⟨om,om⟩
theorem OE {k:IntKind}{a b:Int}(c:inK k a)(e:inK k b):inK k (min a b):=by
 obtain ⟨f,g⟩:=c;obtain ⟨m,n⟩:=e;exact ⟨om,om⟩
theorem F3 {P:Program}{t:TypeId}(h:Gc P t=some true):∃d,P.underlying t=some d/\d.isRow=true:=by
 unfold Gc at h;split at h<;>first | (rename_i e;exact ⟨_,e,rfl⟩) | (cases h;done) | (simp at h;done)
theorem wK {P:Program}{t:TypeId}{b:Bool}(h:Gc P t=some b)(w:World):(isAgg t).run P w= .ok b w:=by
 unfold Gc at h;unfold isAgg;cases hu:P.underlying t with
 | none=>rw[hu] at h;cases h
 | some d=>
  rw[hu] at h;rw[Sem.run_bind,run_underlying hu w];cases d<;>simp_all
theorem Dh {P:Program}{t:TypeId}{n:Nat}(h:jQ P t=some n):∃i,P.info? t=some i/\i.size=n:=by
 unfold jQ at h;cases hi:P.info? t with
 | none=>rw[hi] at h;cases h
 | some i=>rw[hi] at h;exact ⟨i,rfl,by simpa using h⟩
theorem iI {P:Program}{t:TypeId}{n:Nat}(h:jQ P t=some n)(w:World):(sizeOf t).run P w= .ok n w:=by
 obtain ⟨i,hi,rfl⟩:=Dh h;simp[sizeOf,typeInfo,hi]
theorem rG {P:Program}{t:TypeId}{z:List SV}(h:rA P t=some z)(w:World):∃v:Value,(zeroValue t).run P w= .ok v w/\z=v.cells.toList.map HY:=by
 unfold rA at h;cases hi:P.info? t with
 | none=>rw[hi] at h;cases h
 | some i=>
  rw[hi] at h;simp only at h;cases hz:i.zero with
  | none=>rw[hz] at h;cases h
  | some v=>
   rw[hz] at h;exact ⟨v,by simp[zeroValue,typeInfo,hi,hz],by simpa using h.symm⟩
theorem sE (E:Env)(l:List Value):RelL E (l.map HY) l:=by
 induction l with
 | nil=>exact .nil
 | cons v r ih=>exact .cons _ _ _ _ (DZ E v) ih
theorem Cr {P:Program}{w:World}{t:TypeId}{b off:Nat}{v:Value}(c:Gc P t=some false)(e:w.cell? ⟨b,off,none⟩=some v):(Instr.loadAt t (.pointer (some ⟨b,off,none⟩))).run P w= .ok v w:=by
 simp[Instr.loadAt,Instr.sureAddr,loadVar,wK c,e]
theorem oA {P:Program}{E:Env}{t:TypeId}{ag:Bool}{c off b base:Nat}{l:List SV}{vs:List Value}{K:SV->Prop}(h:oI ag off c l K)(z:Gc P t=some ag)(F:jQ P t=some c)(u:RelL E l vs)(A:E.w.rangeAt b base vs):∃v s,(Instr.loadAt t (.pointer (some ⟨b,base+off,none⟩))).run P E.w= .ok v E.w/\K s/\Rel E s v:=by
 cases ag with
 | true=>
  simp only[oI] at h;cases hb:Nat.ble (off+c) l.length with
  | false=>rw[hb] at h;cases h
  | true=>
   rw[hb] at h;simp only[bP,cD] at h;have D:off+c<=vs.length:=by rw[<- u.length];exact fI hb
   have g:((vs.drop off).take c).length=c:=by simp;omega
   obtain ⟨d,B,o⟩:=F3 z;obtain ⟨i,hi,y⟩:=Dh F;have x:E.w.rangeAt b (base+off) ((vs.drop off).take c):=by
    intro j v f;rw[iS];apply A;rw[aL] at f;split at f
    ·rw[aX] at f;exact f
    cases f
   exact ⟨_,_,run_loadAt_mid _ _ _ _ _ _ x B o (by rw[hi,g];simp[y]),h,.agg _ _ ((u.drop off).take c)⟩
 | false=>
  simp only[oI] at h;cases hb:Nat.blt off l.length with
  | false=>rw[hb] at h;cases h
  | true=>
   rw[hb] at h;simp only[bP,kF] at h;have m:off<l.length:=by simpa using hb
   have n:off<vs.length:=by rw[<- u.length];exact m
   have C:=u.get off m;have e:vs[off]? =some (vs.getD off undef):=by simp[n]
   exact ⟨_,_,Cr z (A off _ e),h,C⟩
theorem bB {H:List HO}{nm:Nat}{o:HO}(h:bX H nm=o)(c:o≠ .dead):H[nm]? =some o:=by
 unfold bX at h;rw[aB] at h;cases hn:H[nm]? with
 | none=>rw[hn] at h;exact (c h.symm).elim
 | some x=>rw[hn] at h;simpa using h
theorem I5 {E:Env}{L:Loc}{v k:Nat}{t:Ty}{xs:List t.T}{e:TypeId}(h:OSat E L v (.vec k t xs e)){i:Nat}(hi:i<L.len):
  ∃b es,L.blk=some (b,0)/\E.w.rangeAt b (0+i*t.size) es/\Reads E.w E.ok t (xs.getD i t.dflt) es:=by
 obtain ⟨_,_,x,y,vs,m,n⟩:=h;rcases cW m with ⟨_,_,f,_⟩ | ⟨g,cur,f,_,o,z,_,A,s⟩
 ·omega
 refine ⟨g,_,f,?_,n i hi⟩;intro j v c;rw[aL] at c;split at c
 ·rename_i u;rw[aX,<- s,aL] at c;split at c
  ·have:(⟨g,0+i*t.size+j,none⟩:Addr).off=i*t.size+j:=by simp
   simp only[World.cell?,o];simpa using c
  cases c
 cases c
section
variable {P:Program} {G:Ctx} {H:List HO} {loc:Nat->Loc} {ver:Nat->Nat} {w:World}
theorem Ly (e:Inv G H loc ver w){k m:Nat}{s:Nat->List SV}(g:bX H 0= .yst (some k) m s)(o:G.itr.soft=true):softC m G.itr.sf w:=by
 obtain ⟨_,_,_,c,_,_,f⟩:=e.objs 0 _ (bB g si);have c:m=G.itr.n:=c;rw[c];exact G.itr.softJ o _ _ _ f
theorem Tj (hI:Inv G H loc ver w){t:TypeId}{s:SV}{x:Value}{K:SV->Prop}(h:A2 P t H s K)(hs:Rel (envOf G H loc ver w) s x):
  ∃v s',(Instr.loadAt t x).run P w= .ok v w/\K s'/\Rel (envOf G H loc ver w) s' v:=by
 unfold A2 at h;cases ha:Gc P t with
 | none=>rw[ha] at h;cases h
 | some ag=>
 cases hz:jQ P t with
 | none=>rw[ha,hz] at h;cases h
 | some sz=>
 rw[ha,hz] at h;simp only at h;cases hs with
 | ptr nm y _ hn hp=>
  simp only at h;cases u:bX H nm with
  | cells l e=>
   rw[u] at h;have J:=hI.objs nm _ (bB u si);obtain ⟨Y,b,vs,Z,h2,h3⟩:=J;obtain ⟨b',B,rfl⟩:=hp Y;have e1:(loc nm).blk=some (b',0):=B;rw[Z] at e1;cases e1;have:=oA (P:=P) (base:=0) (b:=b) h ha hz h3 (fun j v C=>by simp[World.cell?,h2,C]);simpa [envOf] using this
  | _=>rw[u] at h;cases h
 | elem ty xs i o b y es hi hok A f=>
  simp only[Ku] at h;have X:=f.giv h;exact oA (P:=P) X ha hz f.enc A
 | lelem l i b y vs hl hok A=>
  exact oA (P:=P) h ha hz hl A
 | wcel n b e hw hok A=>
  have a3:w.heap[b]? =some (.cells ⟨[.int .i64 n]⟩ e (0,0)):=A
  have:=oA (P:=P) (base:=0) (b:=b) (E:=envOf G H loc ver w) (vs:=[.int .i64 n]) h ha hz (.cons _ _ _ _ (.val _ hw) .nil) (fun j v C=>by
   have a2:(envOf G H loc ver w).w.heap[b]? =some (.cells ⟨[.int .i64 n]⟩ e (0,0)):=A;cases j with
   | zero=>simp at C;subst C;simp[World.cell?,a2]
   | succ j=>simp at C)
  simpa [envOf] using this
 | vptr nm k i z o _ hn Y hk hp=>
  simp only at h;cases u:bX H nm with
  | vec v ty xs e=>
   rw[u] at h;simp only at h;cases c:(Nat.beq v k&&Nat.beq z ty.size) with
   | false=>rw[c] at h;cases h
   | true=>
    rw[c] at h;simp only[bP] at h;simp only[aG,bM] at c;obtain ⟨rfl,rfl⟩:=c;have J:=hI.objs nm _ (bB u si);have W:ver nm=v:=J.1;obtain ⟨D,b,y,a0,rfl⟩:=hp W.symm;obtain ⟨b',es,B,A,f⟩:=I5 J D;have e1:(loc nm).blk=some (b,y):=a0;rw[B] at e1;cases e1;rw[Ku] at h;have X:=f.giv h;exact oA (P:=P) X ha hz f.enc A
  | _=>rw[u] at h;cases h
 | sft i _ hon W=>
  cases i with
  | none=>cases h
  | some i=>
   simp only at h;split at h;case h_2=>cases h
   rename_i k m it u;cases c:(!ag&&Nat.beq sz 1) with
   | false=>rw[c] at h;cases h
   | true=>
   rw[c] at h;simp only[bP] at h;obtain ⟨D,hK⟩:=h;simp only[aG,nA,bM] at c;obtain ⟨rfl,rfl⟩:=c;obtain ⟨_,_,F⟩:=Ly hI u W.1;obtain ⟨_,b,c,rfl⟩:=W;rcases F with Y | ⟨g,cur,e,fz,Z,_,h2,h3⟩
   ·omega
   have c:G.itr.sf.blk=some (b,0):=c;have a1:g=b:=by rw[Z] at c;simpa using c
   subst a1;have hc:w.cell? ⟨g,i,none⟩=some (cur[i]'(by omega)):=by simp[World.cell?,h2,show i<cur.size by omega]
   exact ⟨_,_,Cr ha hc,hK,.any _⟩
 | _=>cases h
end
end Go.Eng
end
section
namespace Go.Eng
open Go.RowKit
theorem and4 {a b c d:Bool}(h:(a&&b&&c&&d)=true):a=true/\b=true/\c=true/\d=true:=by simpa [and_assoc] using h
theorem bD {c:Bool}{p:Prop}(h:bif c then p else False):c=true/\p:=by
 cases c with
 | false=>cases h
 | true=>exact ⟨rfl,h⟩
section
variable {P:Program} {G:Ctx} {H:List HO} {loc:Nat->Loc} {ver:Nat->Nat} {w:World}
theorem Lz (o:Inv G H loc ver w){s:SV}{v:Value}(h:Rel (envOf G H loc ver w) s v)(f:AZ H s=true):v.oneCell'=true:=by
 cases h with
 | any=>cases f
 | val v h=>cases v<;>first | rfl | cases f
 | bl=>rfl
 | str=>rfl
 | seq t xs v h=>obtain ⟨a,n,c,e,_⟩:=h;cases e;rfl
 | lit=>rfl
 | elem=>rfl
 | lelem=>rfl
 | wcel=>rfl
 | num=>rfl
 | fmp=>rfl
 | ptr nm off v hn h=>
  simp only[AZ] at f;cases ho:bX H nm with
  | cells l e=>
   have g:=o.objs nm _ (bB ho si);obtain ⟨b,_,rfl⟩:=h g.1;rfl
  | _=>rw[ho] at f;cases f
 | ref nm k v hn h0 hk h=>
  simp only[AZ] at f;cases ho:bX H nm with
  | vec j t xs e=>
   rw[ho] at f;obtain rfl:=bM.1 f;have g:=o.objs nm _ (bB ho si);rw[h g.1.symm];rfl
  | fro j t xs=>
   rw[ho] at f;obtain rfl:=bM.1 f;have g:=o.objs nm _ (bB ho si);rw[h g.1.symm];rfl
  | vv j s t xss pd eo ei=>
   rw[ho] at f;obtain rfl:=bM.1 f;have g:=o.objs nm _ (bB ho si);rw[h g.1.symm];rfl
  | _=>rw[ho] at f;cases f
 | mp nm v hn h=>
  simp only[AZ] at f;cases ho:bX H nm with
  | map k t m=>
   have g:=o.objs nm _ (bB ho si);obtain ⟨b,_,rfl⟩:=h g.1;rfl
  | qm ks l=>
   have g:=o.objs nm _ (bB ho si);obtain ⟨b,_,rfl⟩:=h g.1;rfl
  | _=>rw[ho] at f;cases f
 | vptr=>cases f
 | sub=>cases f
 | subp=>cases f
 | part=>cases f
 | lim=>cases f
 | ifc v h=>
  rcases h with rfl | ⟨t,x,rfl⟩
  ·rfl
  rfl
 | wide=>cases f
 | agg=>cases f
 | tup=>cases f
 | clo=>rfl
 | yld=>rfl
 | sft=>cases f
theorem Tk {v:Value}(h:v.oneCell'=true):v.cells= #[v]:=by cases v<;>first | rfl | cases h
theorem tY (g:Inv G H loc ver w){s:SV}{v:Value}(h:Rel (envOf G H loc ver w) s v)(m:Kv H s=true):RelL (envOf G H loc ver w) (dC s) v.cells.toList:=by
 have c:AZ H s=true->dC s= [s]->RelL (envOf G H loc ver w) (dC s) v.cells.toList:=by
  intro e f;rw[f,Tk (Lz g h e)];exact .cons _ _ _ _ h .nil
 cases s with
 | agg l=>cases h with
  | agg _ vs hl=>exact hl
 | _=>exact c m rfl
theorem Ic (e:Inv G H loc ver w):∀ {l:List SV} {vs:List Value},RelL (envOf G H loc ver w) l vs->C9 H l=true->∀v∈vs,v.oneCell'=true
 | _,_,.nil,_=>by simp
 | _,_,.cons s v l vs h hl,hc=>by
  simp only[C9,aG] at hc;intro u c;rcases bY.1 c with rfl | c
  ·exact Lz e h hc.1
  exact Ic e hl hc.2 u c
theorem Xj (r l:List Value)(off:Nat)(h:off+r.length<=l.length):lP l off r=l.take off++r++l.drop (off+r.length):=by
 apply eL;intro i;rw[Bk r l off i h];by_cases c:i<off
 ·rw[aD om,bW,bN (by simp;omega),aL,aE c]
 by_cases e:i<off+r.length
 ·rw[aE om,bW,cN (by simp;omega),bN (by simp;omega)];congr 1;simp;omega
 rw[aD om,bW,cN (by simp;omega),cN (by simp;omega),aX];congr 1;simp;omega
theorem zY {b off:Nat}{t e:TypeId}{f:Nat}{cs:List Value}{v:Value}(s:jQ P t=some f)(o:w.heap[b]? =some (.cells ⟨cs⟩ e (0,0)))(m:v.cells.toList.length=f)(n:∀u∈v.cells.toList,u.oneCell'=true)(x:off+f<=cs.length):
  (Instr.storeAt t (.pointer (some ⟨b,off,none⟩)) v).run P w= .ok () (w.setRow b ⟨lP cs off v.cells.toList⟩):=by
 have c:=run_storeCells_at P b off e v.cells.toList 0 ⟨cs⟩ w o (by simp at m ⊢;omega) n;simp only[Nat.add_zero] at c;have e1:lP cs off v.cells.toList=cs.take off++v.cells.toList++cs.drop (off+v.cells.toList.length):=Xj _ _ _ om;rw[e1];have g:¬v.cells.size≠f:=by simpa using m
 simp only[Instr.storeAt,Instr.sureAddr,storeVar,Sem.run_bind,Sem.run_pure,Result.andThen_ok,iI s,aD g];simpa using c
theorem Xk {b:Nat}{cs c:Array Value}{e:TypeId}{f:Nat × Nat}(h:w.heap[b]? =some (.cells cs e f))(g:c=cs):w.setRow b c=w:=by
 subst g;unfold World.setRow;congr 1
 apply vA;intro i;rw[qY];split
 ·rename_i e;subst e;rw[h];rfl
 rfl
theorem Cs (X:Inv G H loc ver w){t:TypeId}{s x:SV}{p v:Value}{K:List HO->Prop}(h:Kc P t H s x K)(hp:Rel (envOf G H loc ver w) s p)(hx:Rel (envOf G H loc ver w) x v):
  ∃H' w',(Instr.storeAt t p v).run P w= .ok () w'/\K H'/\Inv G H' loc ver w'/\Ext (envOf G H loc ver w) (envOf G H' loc ver w'):=by
 unfold Kc at h;simp only[OB] at h;cases hz:jQ P t with
 | none=>rw[hz] at h;cases hp<;>cases h
 | some sz=>
 rw[hz] at h;cases hp with
 | ptr nm off _ hn hp=>
  simp only at h;cases ho:bX H nm with
  | cells l e=>
   rw[ho] at h;obtain ⟨Y,h⟩:=bD h;simp only[cD] at h;obtain ⟨b1,b2,b3,b4⟩:=and4 Y;have J:=bB ho si;obtain ⟨h0,b,vs,h1,h2,h3⟩:=X.objs nm _ J;obtain ⟨b',C,rfl⟩:=hp h0;have e1:(loc nm).blk=some (b',0):=C;rw[h1] at e1;cases e1;have B:=tY X hx b1;have E:=B.length;have c':=h3.length;have c6:=bM.1 b3;have c7:=fI b4;have c:=zY (P:=P) (w:=w) (v:=v) (off:=off) hz h2 om (Ic X B b2) om;have D:=X.inPlace (w':=w.setRow b ⟨lP vs off v.cells.toList⟩) (o':=.cells (setCells l off (dC x)) e) J (b:=b) (by simp[Owns,h1]) (fun _ h=>h) si rfl rfl rfl (fun b' C=>setRow_other w b b' _ C)
    (fun f=>⟨h0,b,_,h1,setRow_heap w b _ _ e _ h2,(h3.ext f).setCells (B.ext f) off⟩)
   exact ⟨_,_,c,h,D.1,D.2⟩
  | _=>rw[ho] at h;cases h
 | vptr nm k i z o _ hn h0 hk hp=>
  simp only at h;cases ho:bX H nm with
  | vec j ty xs e=>
   rw[ho] at h;simp only at h;obtain ⟨Y,h'⟩:=bD h;rw[Ku] at h';obtain ⟨b9,hK⟩:=bD h';cases hd:HZ ty (setCells (enc ty (xs.getD i ty.dflt)) o (dC x)) with
   | none=>rw[hd] at hK;cases hK
   | some y=>
   rw[hd] at hK;simp only[cD] at hK;simp only[aG,bM,yM] at Y;obtain ⟨⟨⟨⟨b1,rfl⟩,rfl⟩,b3⟩,b4⟩:=Y;have J:=bB ho si;have hO:=X.objs nm _ J;obtain ⟨hv,b8,E,a8,vs,a1,a6⟩:=hO;have c3:ver nm=j:=hv;obtain ⟨c0,b,off,b7,rfl⟩:=hp c3.symm;have A:(loc nm).blk=some (b,off):=b7;have F:i<(loc nm).len:=c0;rcases cW a1 with ⟨e1,_⟩ | ⟨g,cur,e1,e2,e3,e4,e5,e6,e7⟩
   ·rw[A] at e1;cases e1
   rw[A] at e1;cases e1;have B:=tY X hx b1;have c8:=B.length;have a7:=a6 i F;have a0:=a7.length;have a9:RelL (envOf G H loc ver w) (setCells (enc ty (xs.getD i ty.dflt)) o (dC x)) (lP ((vs.drop (i*ty.size)).take ty.size) o v.cells.toList):=(a7.enc).setCells B o;have b6:=wI a9 hd b9;have d1:vs.length=(loc nm).len*ty.size:=a1.1;have c5:i*ty.size+ty.size<=(loc nm).len*ty.size:=by
    have:(i+1)*ty.size<=(loc nm).len*ty.size:=aN _ F;rwa [bI,cX] at this
   have a4:(loc nm).cap*ty.size<=cur.toList.length:=by simpa using e6
   have c4:(loc nm).len*ty.size<=(loc nm).cap*ty.size:=aN _ e4;have a5:∀u∈v.cells.toList,u.oneCell'=true:=by
    intro u hu;apply b6.one;obtain ⟨q,W,rfl⟩:=fV hu;have hg:=Bk v.cells.toList ((vs.drop (i*ty.size)).take ty.size) o (o+q) (by rw[a0];omega);rw[aE om] at hg;have e9:o+q-o=q:=om;rw[e9,aY W] at hg;exact kT hg
   have Z:w.heap[b]? =some (.cells ⟨cur.toList⟩ e (0,0)):=e3;have c:=zY (P:=P) (w:=w) (v:=v) (off:=0+i*ty.size+o) hz Z om a5 om;have cA:∀m,(lP cur.toList (0+i*ty.size+o) v.cells.toList)[m]? =if i*ty.size+o<=m/\m<i*ty.size+o+v.cells.toList.length then v.cells.toList[m-(i*ty.size+o)]? else cur.toList[m]? :=by
    intro m;rw[Bk _ _ _ _ om];simp only[eS]
   have D:=X.inPlace (w':=w.setRow b ⟨lP cur.toList (0+i*ty.size+o) v.cells.toList⟩) (o':=.vec j ty (xs.set i y) e) J (b:=b) (by simp[Owns,A]) (fun _ h=>h) si rfl rfl rfl (fun b' C=>setRow_other w b b' _ C)
    (fun f=>by
     refine ⟨hv,b8,by simpa using E,a8,(lP cur.toList (0+i*ty.size+o) v.cells.toList).take ((loc nm).len*ty.size),?_,?_⟩
     ·refine ⟨by rw[aW,xM];omega,.inr ⟨b,(loc nm).cap,_,?_,aF _,setRow_heap w b _ _ e _ Z,e4,e5,?_,rfl⟩⟩
      ·simp[Core.head,A]
      show _<=(lP cur.toList _ _).length;rw[xM];exact a4
     intro m hm;have d0:m*ty.size+ty.size<=(loc nm).len*ty.size:=by
      have:(m+1)*ty.size<=(loc nm).len*ty.size:=aN _ hm;rwa [bI,cX] at this
     by_cases e:m=i
     ·subst e;have a2:(((lP cur.toList (0+m*ty.size+o) v.cells.toList).take ((loc nm).len*ty.size)).drop (m*ty.size)).take ty.size=lP ((vs.drop (m*ty.size)).take ty.size) o v.cells.toList:=by
       apply eL;intro q;rw[Bk _ _ _ _ (by rw[a0];omega),aL,aX,aL,cA,<- e7];by_cases W:q<ty.size
       ·rw[aE W,aE om];by_cases a':o<=q/\q<o+v.cells.toList.length
        ·rw[aE om,aE a'];congr 1;omega
        rw[aD om,aD a',aL,aE W,aX,aL,aE om]
       rw[aD W,aD om,aL,aD W]
      rw[a2];have a3:getD (α:=ty.T) (xs.set m y) m ty.dflt=y:=by
       have:m<xs.length:=by rw[<- E];exact F
       simp[aB,this]
      rw[a3];exact b6.mono f.cell f.ok
     have a2:(((lP cur.toList (0+i*ty.size+o) v.cells.toList).take ((loc nm).len*ty.size)).drop (m*ty.size)).take ty.size=(vs.drop (m*ty.size)).take ty.size:=by
      apply eL;intro q;rw[aL,aX,aL,cA,<- e7,aL,aX,aL];by_cases W:q<ty.size
      ·have c1:m*ty.size+q<(loc nm).len*ty.size:=om;have c2:¬(i*ty.size+o<=m*ty.size+q/\m*ty.size+q<i*ty.size+o+v.cells.toList.length):=by
        intro hc;rcases Nat.lt_or_gt_of_ne e with h1 | h1
        ·have:(m+1)*ty.size<=i*ty.size:=aN _ h1;rw[bI,cX] at this;omega
        have:(i+1)*ty.size<=m*ty.size:=aN _ h1;rw[bI,cX] at this;omega
       rw[aE W,aE c1,aD c2,aE W,aE c1]
      rw[aD W,aD W]
     rw[a2];have a3:getD (α:=ty.T) (xs.set i y) m ty.dflt=xs.getD m ty.dflt:=by
      simp[aB,fY,Ne.symm e]
     rw[a3]
     exact (a6 m hm).mono f.cell f.ok)
   exact ⟨_,_,c,hK,D.1,D.2⟩
  | _=>rw[ho] at h;cases h
 | wcel n b e hw hok hr=>
  simp only at h;split at h;case h_2=>cases h
  rename_i m;obtain ⟨Y,hm,hK⟩:=bD h;have Y:=bM.1 Y;subst Y hm;cases hx with
  | val _ _=>
  have b5:w.heap[b]? =some (.cells ⟨[.int .i64 m]⟩ e (0,0)):=hr;have c:=zY (P:=P) (w:=w) (v:=.int .i64 m) (off:=0) hz b5 (by simp[Value.cells]) (by intro u hu;simp[Value.cells] at hu;subst hu;rfl) si;exact ⟨_,_,c,by rw[Xk b5 (by simp[Value.cells,lP])];exact ⟨hK,X,Ext.refl _⟩⟩
 | _=>cases h
theorem wM (g:Inv G H loc ver w){nm off:Nat}{p:Value}(f:Rel (envOf G H loc ver w) (.ptr nm off) p)(c:Kw H (.ptr nm off)=true):∃b,(loc nm).blk=some (b,0)/\p= .pointer (some ⟨b,off,none⟩):=by
 cases f with
 | ptr nm off _ hn f=>
  simp only[Kw] at c;cases ho:bX H nm with
  | cells l e=>exact f (g.objs nm _ (bB ho si)).1
  | _=>rw[ho] at c;cases c
theorem Ie {t:TypeId}{f g m:Nat}{ag:Bool}(h:Bf P t f=some (g,m,ag)):
  ∃e c,P.underlying t=some (.struct e)/\e[f]? =some c/\c.offset=g/\jQ P c.type=some m/\Gc P c.type=some ag:=by
 unfold Bf at h;split at h
 ·rename_i e x;split at h
  ·rename_i c o;split at h
   ·rename_i s a u n;cases h;exact ⟨e,c,x,o,rfl,u,n⟩
   cases h
  cases h
 cases h
theorem sF {t:TypeId}{f e c b off:Nat}{ag:Bool}(h:Bf P t f=some (e,c,ag))(u:0<c):(Instr.fieldAt t (.pointer (some ⟨b,off,none⟩)) f).run P w= .ok (.pointer (some ⟨b,off+e,none⟩)) w:=by
 obtain ⟨s,o,n,g,rfl,m,x⟩:=Ie h;have:¬c=0:=om;simp[Instr.fieldAt,run_underlying n,g,Instr.sureAddr,fieldPlace,iI m,this,Addr.add_mid]
theorem F4 {E:Env}{t:TypeId}{f u o:Nat}{ag:Bool}{cs:List SV}{vs:List Value}{K:SV->Prop}(A:Bf P t f=some (u,o,ag))(n:RelL E cs vs)(h:oI ag u o cs K):∃v s,(Instr.field t (.agg ⟨vs⟩) f).run P w= .ok v w/\K s/\Rel E s v:=by
 obtain ⟨C,m,z,c,rfl,B,x⟩:=Ie A;cases ag with
 | true=>
  obtain ⟨y,h⟩:=bD h;rw[cD] at h;refine ⟨_,_,?_,h,.agg _ _ ((n.drop m.offset).take o)⟩;simp[Instr.field,run_underlying z,c,asAgg,part,wK x,iI B]
 | false=>
  obtain ⟨y,h⟩:=bD h;rw[kF] at h;have e:m.offset<cs.length:=by simpa using y
  have g:m.offset<vs.length:=by rw[<- n.length];exact e
  refine ⟨_,_,?_,h,n.get _ e⟩;simp[Instr.field,run_underlying z,c,asAgg,part,wK x,g]
theorem F5 {E:Env}{t e:TypeId}{n:Nat}{kk:IntKind}{j:Int}{c:Nat}{ag:Bool}{cs:List SV}{vs:List Value}{K:SV->Prop}(z:P.underlying t=some (.array n e))(x:Gc P e=some ag)(y:jQ P e=some c)(o:0<=j/\j<n)(u:RelL E cs vs)(h:oI ag (j.toNat*c) c cs K):∃v s,(Instr.index t (.agg ⟨vs⟩) (.int kk j)).run P w= .ok v w/\K s/\Rel E s v:=by
 cases ag with
 | true=>
  obtain ⟨f,h⟩:=bD h;rw[cD] at h;refine ⟨_,_,?_,h,.agg _ _ ((u.drop (j.toNat*c)).take c)⟩;simp[Instr.index,asIntOf,run_underlying z,o.1,o.2,part,wK x,iI y]
 | false=>
  obtain ⟨f,h⟩:=bD h;rw[kF] at h;have g:j.toNat*c<cs.length:=by simpa using f
  have m:j.toNat*c<vs.length:=by rw[<- u.length];exact g
  refine ⟨_,_,?_,h,u.get _ g⟩;simp[Instr.index,asIntOf,run_underlying z,o.1,o.2,part,wK x,iI y,m]
theorem fS {t e:TypeId}(h:fZ P t=some e):P.underlying t=some (.slice e):=by
 unfold fZ at h;split at h
 ·rename_i f c;cases h;exact c
 cases h
theorem sG {t e:TypeId}{f b off n c:Nat}{k:IntKind}{i:Int}(g:fZ P t=some e)(m:jQ P e=some f)(h:0<=i/\i<n):
  (Instr.indexAt t (.slice (some ⟨b,off,none⟩) n c) (.int k i)).run P w= .ok (.pointer (some ⟨b,off+i.toNat*f,none⟩)) w:=by
 simp[Instr.indexAt,asIntOf,run_underlying (fS g),iI m,h.1,h.2,Addr.add_mid]
theorem Tl (B:Inv G H loc ver w){t:TypeId}{x i:SV}{p q:Value}{K:SV->Prop}(h:A7 P t H x i K)(F:Rel (envOf G H loc ver w) x p)(hi:Rel (envOf G H loc ver w) i q):
  ∃v s,(Instr.indexAt t p q).run P w= .ok v w/\K s/\Rel (envOf G H loc ver w) s v:=by
 unfold A7 at h;split at h
 ·rename_i n e u y k j f;obtain ⟨rfl,_⟩:=hi.int_inv;split at h
  ·rename_i J E;obtain ⟨c,h⟩:=bD h;obtain ⟨⟨z,A⟩,g⟩:=h;have g:=g.use z;have m:P.underlying t=some (.array n e):=by
    unfold QK at f;split at f
    ·rename_i m;cases f;exact m
    cases f
   cases F with
   | ptr _ _ _ hn hp=>
    have o:ver u=0:=by
     simp only[Kw] at c;split at c
     ·rename_i l W D;exact (B.objs u _ (bB D si)).1
     cases c
    obtain ⟨b,C,rfl⟩:=hp o;refine ⟨.pointer (some ⟨b,y+j.toNat*J,none⟩),_,?_,g,.ptr u _ _ hn fun _=>⟨b,C,rfl⟩⟩;simp[Instr.indexAt,asIntOf,run_underlying m,Instr.sureAddr,go_sem,z,A,iI E,Addr.add]
  cases h
 cases h
theorem Po (hI:Inv G H loc ver w){t:TypeId}{x i:SV}{p q:Value}{K:SV->Prop}(h:Sf P t H x i K)(hx:Rel (envOf G H loc ver w) x p)(hi:Rel (envOf G H loc ver w) i q):
  ∃v s,(Instr.indexAt t p q).run P w= .ok v w/\K s/\Rel (envOf G H loc ver w) s v:=by
 unfold Sf at h;split at h
 ·rename_i e k n he;obtain ⟨rfl,_⟩:=hi.int_inv;split at h
  ·rename_i sz hs;have a0:∀(A:Ty) (B:List A.T) (p:Value),Reads w (qW G H loc w) (.slice A) B [p]->sz=A.size->(0<=n/\n<B.length)->K (.elem A B n.toNat 0)->∃v s,(Instr.indexAt t p (.int k n)).run P w= .ok v w/\K s/\Rel (envOf G H loc ver w) s v:=by
    intro A B p hr F o hk;obtain ⟨a,m,c,e1,hm,b5,b6,a3⟩:=hr;cases e1;have b4:m=B.length:=hm;obtain ⟨b,off,rfl,a2,a1⟩:=a3 om;obtain ⟨es,C,X,y⟩:=a1 n.toNat om;refine ⟨_,_,sG he hs ⟨o.1,om⟩,hk,?_⟩;rw[F];have:=Rel.elem (E:=envOf G H loc ver w) A B n.toNat 0 b (off+n.toNat*A.size) es om a2 X y;simpa using this
   split at h
   ·rename_i A B;obtain ⟨o,h⟩:=bD h;cases hx with
    | seq _ _ _ hr=>exact a0 A B p hr (bM.1 o) h.ok (h.go.use h.ok.1)
   ·rename_i es l;obtain ⟨o,h⟩:=bD h;have o:=bM.1 o;subst o;cases hx with
    | lit _ m b off _ vs hl hn a2 hr=>
     rw[Sd] at h;obtain ⟨⟨C,X⟩,y⟩:=h;have X:n.toNat*sz<l.length:=by
      obtain ⟨j,rfl⟩:=bL C;rw[aU];have b1:((j*sz:Nat):Int)<0+(l.length:Int):=by simpa using X
      omega
     have a8:n<m:=by
      rw[hl.length,hn] at X;have:n.toNat<m:=Nat.lt_of_mul_lt_mul_right X;omega
     exact ⟨_,_,sG he hs ⟨C,a8⟩,y,.lelem _ _ _ _ _ hl a2 hr⟩
   ·split at h;case h_2=>cases h
    rename_i k' m it ho;obtain ⟨o,h⟩:=bD h;have o:=bM.1 o;subst o;obtain ⟨⟨C,X⟩,y⟩:=h;have y:=y.use C;cases hx with
    | sft _ _ hon J=>
     obtain ⟨hl,_,a5⟩:=Ly hI ho J.1;have a9:p=G.itr.sf.head:=J.2;subst a9;rcases a5 with h0 | ⟨g,cur,e',fz,e1,e2,_⟩
     ·omega
     have u:=sG (P:=P) (w:=w) (b:=g) (off:=0) (n:=G.itr.sf.len) (c:=G.itr.sf.cap) (k:=k) (i:=n) he hs ⟨C,om⟩;refine ⟨.pointer (some ⟨g,0+n.toNat*1,none⟩),_,?_,y,?_⟩
     ·simp only[Core.head,e1,mR];exact u
     exact .sft _ _ hon ⟨J.1,g,e1,si⟩
   ·rename_i f k';split at h
    ·rename_i j A B e' ho;obtain ⟨o,hK⟩:=bD h;simp only[aG,bM] at o;obtain ⟨rfl,F⟩:=o;cases hx with
     | ref _ _ _ hn h0 hk J=>
      have Y:=hI.objs f _ (bB ho si);have W:ver f=j:=Y.1;have:=J W.symm;subst this;obtain ⟨_,_,Z,a4,vs,D,a1⟩:=Y;obtain ⟨⟨C,X⟩,y⟩:=hK;have y:=y.use C;have a7:(loc f).len=B.length:=Z;rcases cW D with ⟨_,_,e2,_⟩ | ⟨g,cur,e1,e2,_⟩
      ·omega
      have u:=sG (P:=P) (w:=w) (b:=g) (off:=0) (n:=(loc f).len) (c:=(loc f).cap) (k:=k) (i:=n) he hs ⟨C,om⟩;refine ⟨.pointer (some ⟨g,0+n.toNat*sz,none⟩),_,?_,y,?_⟩
      ·show (Instr.indexAt t (Core.head (loc f).toCore) _).run P w= _;simp only[Core.head,e1,mR];exact u
      refine .vptr f j _ sz 0 _ hn h0 hk fun _=>⟨?_,g,0,e1,si⟩;show n.toNat<(loc f).len;omega
    ·rename_i j A B ho;obtain ⟨o,hK⟩:=bD h;simp only[aG,bM] at o;obtain ⟨rfl,F⟩:=o;cases hx with
     | ref _ _ _ hn h0 hk J=>
      have Y:=hI.objs f _ (bB ho si);have W:ver f=j:=Y.1;have:=J W.symm;subst this;exact a0 A B _ Y.2.2 F hK.ok (hK.go.use hK.ok.1)
    cases h
   ·rename_i f k' a b z;split at h
    ·rename_i j A B e' ho;obtain ⟨o,hK⟩:=bD h;simp only[aG,bM] at o;obtain ⟨rfl,F,rfl⟩:=o;cases hx with
     | part _ _ _ _ _ _ hn h0 hk J=>
      have Y:=hI.objs f _ (bB ho si);have W:ver f=j:=Y.1;obtain ⟨b2,a6,J⟩:=J W.symm;subst J;obtain ⟨_,_,Z,a4,vs,D,a1⟩:=Y;obtain ⟨⟨C,X⟩,y⟩:=hK;have y:=y.use C;have a':b<=(loc f).len:=a6;rcases cW D with ⟨_,_,e2,_⟩ | ⟨g,cur,e1,e2,_,b3,_⟩
      ·omega
      have hc:¬(loc f).cap=a:=om;have u:=sG (P:=P) (w:=w) (b:=g) (off:=0+a*z) (n:=b-a) (c:=(loc f).cap-a) (k:=k) (i:=n) he hs ⟨C,X⟩;refine ⟨.pointer (some ⟨g,0+a*z+n.toNat*z,none⟩),_,?_,y,?_⟩
      ·show (Instr.indexAt t (.slice (if (loc f).cap=a then (loc f).blk.map (fun p=>(⟨p.1,p.2,none⟩:Addr)) else ((loc f).blk.map fun p=>(⟨p.1,p.2,none⟩:Addr)).map (·.add (a*z))) (b-a) ((loc f).cap-a)) _).run P w= _;rw[aD hc,e1];simp only[mR];show (Instr.indexAt t (.slice (some (Addr.add ⟨g,0,none⟩ (a*z))) (b-a) ((loc f).cap-a)) _).run P w= _;rw[show Addr.add ⟨g,0,none⟩ (a*z)=(⟨g,0+a*z,none⟩:Addr) by simp only[Addr.add];split<;>simp_all];exact u
      refine .vptr f j _ z 0 _ hn h0 hk fun _=>⟨?_,g,0,e1,?_⟩
      ·show a+n.toNat<(loc f).len;omega
      rw[bI,eS,eS,Nat.add_zero]
    cases h
   cases h
  cases h
 cases h
end
end Go.Eng
end
section
namespace Go.Eng
open Go.RowKit
theorem Ty.size_pos (t:Ty):0<t.size:=by
 induction t with
 | pair a b iha ihb=>simp[Ty.size];omega
 | _=>simp[Ty.size]
theorem mT (w:World)(o:Obj):(w.alloc o).heap[w.heap.size]? =some o:=by
 show (w.heap.push o)[w.heap.size]? =some o;simp
theorem Ma {α:Type}(a b:List α)(n k:Nat)(h:a.length=n):(a++b).drop (n+k)=b.drop k:=by
 subst h;apply eL;intro i;rw[aX,aX,cN om];congr 1
 omega
section
variable {P:Program} {G:Ctx} {H:List HO} {loc:Nat->Loc} {ver:Nat->Nat} {w:World}
theorem zZ (f:Inv G H loc ver w){z:List SV}{vs:List Value}(m:RelL (envOf G H loc ver w) z vs)(t:TypeId){K:SV->List HO->Prop}(h:xK H (.cells z t) K):
  Res G (envOf G H loc ver w) K (.pointer (some ⟨w.heap.size,0,none⟩)) (w.alloc (.cells ⟨vs⟩ t)):=by
 simp only[xK,cD] at h;have e:=f.fresh (w':=w.alloc (.cells ⟨vs⟩ t)) (.cells z t) (zT (some (w.heap.size,0)) (0) (0)) 0 si rfl rfl rfl (fun b c=>Below.heap_alloc w _ b c) (by intro b c;simp[Owns] at c;omega)
  (fun g=>⟨rfl,w.heap.size,vs,rfl,mT w _,m.ext g⟩)
 refine ⟨_,_,_,_,h,e.1,?_,e.2⟩;refine .ptr _ _ _ (by exact nI rfl) fun _=>⟨w.heap.size,?_,rfl⟩;simp[envOf,bF]
theorem Bn {t:TypeId}{v:Value}(h:(zeroValue t).run P w= .ok v w):(Instr.alloc t true (.tuple #[])).run P w= .ok (.pointer (some ⟨w.heap.size,0,none⟩)) (w.alloc (.cells v.cells t)):=by
 simp[Instr.alloc,h,newVar,newRow]
theorem D0 {t:TypeId}{v:Value}:(Instr.box t v).run P w= .ok (.pointer (some ⟨w.heap.size,0,none⟩)) (w.alloc (.cells v.cells t)):=by
 simp[Instr.box,newVar,newRow]
inductive RelP (E:Env):List (Nat × SV)->List (Nat × Value)->Prop
 | nil:RelP E [] []
 | cons (i:Nat) (s:SV) (v:Value) (l:List (Nat × SV)) (vs:List (Nat × Value)) (h:RelL E (dC s) v.cells.toList) (h':Rel E s v) (hl:RelP E l vs):RelP E ((i,s)::l) ((i,v)::vs)
theorem Qj (e:Inv G H loc ver w){N:Nat}{l:List (Nat × SV)}{a:Act}(c:TRel (envOf G H loc ver w) N l a)(ps:List (Nat × Operand))(h:vG H (ps.map fun p=>(p.1,ev l p.2))=true):
  RelP (envOf G H loc ver w) (ps.map fun p=>(p.1,ev l p.2)) (ps.map fun p=>(p.1,a.eval p.2)):=by
 induction ps with
 | nil=>exact .nil
 | cons p r ih=>
  simp only[jT,vG,aG] at h;exact .cons _ _ _ _ _ (tY e (oZ c p.2) h.1) (oZ c p.2) (ih h.2)
theorem Xl (r:List Value):∀(cells:Array Value) (off k:Nat),(r.zipIdx k).foldl (fun cs (x:Value × Nat)=>cs.setIfInBounds (off+x.2) x.1) cells= ⟨lP cells.toList (off+k) r⟩:=by
 induction r with
 | nil=>intro cells off k;rfl
 | cons v r ih=>
  intro cells off k;simp only[List.zipIdx_cons,oS];rw[ih];simp[lP,iS]
theorem Qk (cells v:Array Value)(off:Nat):v.zipIdx.foldl (fun cs (x:Value × Nat)=>cs.setIfInBounds (off+x.2) x.1) cells= ⟨lP cells.toList off v.toList⟩:=by
 rw[<- Array.foldl_toList,Array.toList_zipIdx,Xl];rfl
theorem Di {E:Env}{m:List (Nat × Nat)}{place:Nat->Option (Nat × Nat)}(f:∀i p,m[i]? =some p->place i=some p):∀ {e:List (Nat × SV)} {vs:List (Nat × Value)},RelP E e vs->∀ {g l:List SV} {cells:Array Value},uJ m g e=some l->RelL E g cells.toList->
  ∃c,Instr.fill place cells vs=some c/\RelL E l c.toList
 | _,_,.nil,g,l,cells,h,hz=>by simp[uJ] at h;subst h;exact ⟨cells,rfl,hz⟩
 | _,_,.cons i s v r vs hc _ hl,g,l,cells,h,hz=>by
  simp only[uJ] at h;cases hp:m[i]? with
  | none=>rw[hp] at h;cases h
  | some p=>
   obtain ⟨off,n⟩:=p;rw[hp] at h;simp only at h;cases hb:(Nat.beq (dC s).length n&&Nat.ble (off+n) g.length) with
   | false=>rw[hb] at h;cases h
   | true=>
    rw[hb] at h;simp only[bP] at h;simp only[aG,bM,yM] at hb;have o:=hc.length;have u:=hz.length;simp at o u;obtain ⟨c,x,y⟩:=Di f (cells:=⟨lP cells.toList off v.cells.toList⟩) hl h (hz.setCells hc off);refine ⟨c,?_,y⟩;simp only[Instr.fill,f _ _ hp];rw[aD (by simp;omega),Qk];exact x
theorem Xm (e:List Field):∀ {c:List (Nat × Nat)},Sg P e=some c->(e.mapM fun f=>(Prod.mk f.offset <$>sizeOf f.type:Sem (Nat × Nat))).run P w= .ok c w:=by
 induction e with
 | nil=>intro c h;cases h;simp[List.mapM_nil]
 | cons f r ih=>
  intro c h;simp only[Sg] at h;split at h
  ·rename_i n l m g;cases h;rw[Az];simp[iI m,ih g]
  cases h
theorem Xn {u:List (Nat × Nat)}:∀(c:List (Nat × SV)) (o:Nat) (l z:List SV),Wi u o c=some l->o+l.length<=z.length->uJ u z c=some (z.take o++l++z.drop (o+l.length))
 | [],o,l,z,h,_=>by
  simp only[Wi,jE] at h;subst h;simp[uJ]
 | (i,v)::r,o,l,z,h,hl=>by
  unfold Wi at h;split at h
  ·rename_i off e A;obtain ⟨f,h⟩:(Nat.beq off o&&Nat.beq (dC v).length e)=true/\ _:=by
    cases g:(Nat.beq off o&&Nat.beq (dC v).length e) with
    | false=>rw[g,cM] at h;cases h
    | true=>rw[g,bP] at h;exact ⟨rfl,h⟩
   rw[aG] at f;have x:=Nat.eq_of_beq_eq_true f.1;have y:=Nat.eq_of_beq_eq_true f.2;subst x;split at h
   ·rename_i s g;cases h;rw[aO] at hl;have B:=zV (dC v) z off om;have C:(setCells z off (dC v)).length=z.length:=Jk _ _ _;unfold uJ;rw[A];dsimp only;have n:(Nat.beq (dC v).length e&&Nat.ble (off+e) z.length)=true:=by
     rw[aG];exact ⟨f.2,Nat.ble_eq_true_of_le om⟩
    rw[n,bP,Xn r (off+e) s (setCells z off (dC v)) g om];rw[B,<- y];have m:(List.take off z).length=off:=by rw[aW];omega
    congr 1
    rw[cE (by rw[aO,m];omega),cZ (by rw[aO,m];omega)];rw[show off+(dC v).length+s.length=(List.take off z++dC v).length+s.length by rw[aO,m],List.drop_append,dW];simp[iS,m]
   cases h
  cases h
theorem I6 (f:List (Nat × Nat))(z:List SV)(c:List (Nat × SV)):ID f z c=uJ f z c:=by
 unfold ID;split
 ·rename_i l g;cases hb:Nat.beq l.length z.length with
  | false=>rfl
  | true=>
   have e:=Nat.eq_of_beq_eq_true hb;rw[bP,Xn c 0 l z g om,e];simp
 rfl
theorem Pp {E:Env}(J:E.w=w){t:TypeId}{c:List (Nat × SV)}{vs:List (Nat × Value)}{K:SV->Prop}(h:Sh P t c K)(B:RelP E c vs):
  ∃v s,(Instr.build t vs.toArray).run P w= .ok v w/\K s/\Rel E s v:=by
 unfold Sh at h;split at h
 ·rename_i n z C D;split at h
  ·rename_i u g;split at h
   ·rename_i l o;rw[lW] at h;rw[I6] at o;obtain ⟨F,m,rfl⟩:=rG D w;obtain ⟨e,x,y⟩:=Di (place:=fun i=>u[i]?) (fun _ _ h=>h) (cells:=F.cells) B o (sE E _);refine ⟨_,_,?_,h,.agg _ _ y⟩;have A:(n.mapM fun f=>(Prod.mk f.offset <$>sizeOf f.type:Sem (Nat × Nat))).run P w= .ok ⟨u⟩ w:=by
     rw[Array.mapM_eq_mapM_toList];simp only[Sem.run_map,Xm (P:=P) (w:=w) n.toList g,Result.andThen_ok]
    simp[Instr.build,m,run_underlying C];rw[A];simp[x]
   cases h
  cases h
 cases h
theorem Ig (c:Nat):∀(n off i:Nat) (p),(Bg c n off)[i]? =some p->p=(off+i*c,c)
 | 0,_,_,_,h=>by simp[Bg] at h
 | n+1,off,0,p,h=>by simp[Bg] at h;simp[<- h]
 | n+1,off,i+1,p,h=>by
  have:=Ig c n (off+c) i p (by simpa [Bg] using h);rw[this];simp[bI];omega
theorem Tm {E:Env}(F:E.w=w){t:TypeId}{c:List (Nat × SV)}{vs:List (Nat × Value)}{K:SV->Prop}(h:A8 P t c K)(A:RelP E c vs):
  ∃v s,(Instr.build t vs.toArray).run P w= .ok v w/\K s/\Rel E s v:=by
 unfold A8 at h;split at h
 ·rename_i n e z B C;split at h
  ·rename_i o g;split at h
   ·rename_i l y;rw[lW] at h;obtain ⟨D,m,rfl⟩:=rG C w;obtain ⟨f,u,x⟩:=Di (place:=fun i=>some (i*o,o)) (fun i p h=>by have:=Ig o n 0 i p h;rw[this];simp) (cells:=D.cells) A y (sE E _);refine ⟨_,_,?_,h,.agg _ _ x⟩;simp[Instr.build,m,run_underlying B,iI g,u]
   cases h
  cases h
 cases h
theorem Xo {size:Nat}:∀(vs:List (Nat × Value)) (k:Nat) (cells:Array Value),(∀j p,vs[j]? =some p->p.1=k+j/\p.2.cells.toList.length=size)->(k+vs.length)*size<=cells.size->
  Instr.fill (fun i=>some (i*size,size)) cells vs=some ⟨cells.toList.take (k*size)++vs.flatMap (fun p=>p.2.cells.toList)++cells.toList.drop ((k+vs.length)*size)⟩
 | [],k,cells,_,_=>by simp[Instr.fill]
 | (i,v)::r,k,cells,h,hs=>by
  obtain ⟨o,s⟩:=h 0 (i,v) rfl;have f:i=k:=by simpa using o
  subst f;have c:v.cells.size=size:=by simpa using s
  have e:(i+(r.length+1))*size=i*size+size+r.length*size:=by simp[bI];omega
  have x:i*size+size+r.length*size<=cells.size:=by simp only[cF] at hs;omega
  have g:lP cells.toList (i*size) v.cells.toList=cells.toList.take (i*size)++v.cells.toList++cells.toList.drop (i*size+v.cells.toList.length):=Xj _ _ _ (by simp;omega);simp only[Instr.fill]
  rw[aD (by simp;omega),Qk,Xo r (i+1) _ (fun j p u=>by have:=h (j+1) p u;exact ⟨om,this.2⟩) (by
   show _<=(lP cells.toList (i*size) v.cells.toList).length;rw[xM];have:(i+1+r.length)*size=i*size+size+r.length*size:=by simp[bI]
   simp;omega)]
  congr 2
  have e1:(i+1)*size=i*size+size:=by rw[bI,cX]
  have e2:(i+1+r.length)*size=i*size+size+r.length*size:=by simp[bI]
  simp only[jF,cF];rw[g,e,e1,e2];simp only[jM] at*;have m:(cells.toList.take (i*size)).length=i*size:=by simp;omega
  have n:v.cells.toList.length=size:=by simp[c]
  have y:(cells.toList.take (i*size)++v.cells.toList++cells.toList.drop (i*size+v.cells.size)).take (i*size+size)=cells.toList.take (i*size)++v.cells.toList:=tD (by simp only[aO,m,n]);have t2:(cells.toList.take (i*size)++v.cells.toList++cells.toList.drop (i*size+v.cells.size)).drop (i*size+size+r.length*size)=cells.toList.drop (i*size+size+r.length*size):=by
   rw[Ma _ _ (i*size+size) _ (by simp only[aO,m,n]),dW,c]
  rw[y,t2];simp[bW]
end
end Go.Eng
end
section
namespace Go.Eng
open Go.RowKit
section
variable {P:Program} {G:Ctx} {H:List HO} {loc:Nat->Loc} {ver:Nat->Nat} {w:World}
theorem BM (c:Inv G H loc ver w){w':World}(h:w.heap.size<w'.heap.size):qW G H loc w' w.heap.size:=by
 refine ⟨.inr (.inr c.size),h,?_⟩;rintro ⟨nm,o,ho,hb⟩;have:=(c.objs nm o ho).block hb;simp[envOf] at this
theorem Et {E:Env}{t:Ty}:∀ {c:List (Nat × SV)} {vs:List (Nat × Value)},RelP E c vs->∀ {n:Nat} {l:List t.T},La t c n=some l->
  l.length=vs.length/\(∀j p,vs[j]? =some p->p.1=n+j/\p.2.cells.toList.length=t.size)/\(vs.flatMap fun p=>p.2.cells.toList).length=l.length*t.size/\
  ∀i,i<l.length->Reads E.w E.ok t (l.getD i t.dflt) (((vs.flatMap fun p=>p.2.cells.toList).drop (i*t.size)).take t.size)
 | _,_,.nil,n,l,h=>by
  simp only[La] at h;cases h;exact ⟨rfl,si,si,si⟩
 | _,_,.cons i s v r vs hc _ hl,n,l,h=>by
  simp only[La] at h;cases hb:(Nat.beq i n&&Nat.beq (dC s).length t.size&&rX t (dC s)) with
  | false=>rw[hb] at h;cases h
  | true=>
   rw[hb] at h;simp only[bP] at h;split at h
   ·rename_i x D B g;cases h;simp only[aG,bM] at hb;obtain ⟨⟨rfl,m⟩,C⟩:=hb;obtain ⟨o,u,y,z⟩:=Et hl g;have A:=hc.length;have e:v.cells.toList.length=t.size:=om;refine ⟨by simp[o],?_,?_,?_⟩
    ·intro j p f;cases j with
     | zero=>simp at f;subst f;exact ⟨rfl,e⟩
     | succ j=>simp at f;have:=u j p f;exact ⟨om,this.2⟩
    ·simp only[jF,aO,y,e,cF,bI];omega
    intro j f;simp only[jF];cases j with
    | zero=>
     rw[qL,eN,tD e];exact wI hc B C
    | succ j=>
     have:(j+1)*t.size=t.size+j*t.size:=by rw[bI];omega
     rw[this,Ma _ _ _ _ e];simpa using z j (by simpa using f)
   cases h
theorem Mb {E:Env}:∀ {f:List (Nat × SV)} {vs:List (Nat × Value)},RelP E f vs->∀ {n:Nat} {l:List SV},Lb f n=some l->
  l.length=vs.length/\(∀j p,vs[j]? =some p->p.1=n+j/\p.2.cells.toList.length=1)/\((∀s∈l,∀c,s≠ .agg c)->RelL E l (vs.flatMap fun p=>p.2.cells.toList))
 | _,_,.nil,n,l,h=>by
  simp only[Lb] at h;cases h;exact ⟨rfl,si,fun _=>.nil⟩
 | _,_,.cons i s v r vs hc hr hl,n,l,h=>by
  simp only[Lb] at h;cases hb:(Nat.beq i n&&Nat.beq (dC s).length 1) with
  | false=>rw[hb] at h;cases h
  | true=>
   rw[hb] at h;simp only[bP] at h;split at h
   ·rename_i F o;cases h;simp only[aG,bM] at hb;obtain ⟨rfl,y⟩:=hb;obtain ⟨z,A,B⟩:=Mb hl o;have C:=hc.length;refine ⟨by simp[z],?_,?_⟩
    ·intro j p m;cases j with
     | zero=>
      simp at m;subst m;have x:v.cells.toList.length=1:=om;exact ⟨rfl,x⟩
     | succ j=>simp at m;have:=A j p m;exact ⟨om,this.2⟩
    intro g;simp only[jF];have e:dC s= [s]:=by
     cases s<;>first | rfl | exact absurd rfl (g _ (cQ ..) _)
    rw[e] at hc;exact RelL.append hc (B fun D u=>g D (cC _ u))
   cases h
theorem Mc {E:Env}{g:Nat}:∀ {c:List (Nat × SV)} {vs:List (Nat × Value)},RelP E c vs->∀ {n:Nat} {l:List SV},Ld g c n=some l->
  l.length=vs.length*g/\(∀j p,vs[j]? =some p->p.1=n+j/\p.2.cells.toList.length=g)/\RelL E l (vs.flatMap fun p=>p.2.cells.toList)
 | _,_,.nil,n,l,h=>by
  simp only[Ld] at h;cases h;exact ⟨si,si,.nil⟩
 | _,_,.cons i s v r vs hc hr hl,n,l,h=>by
  simp only[Ld] at h;split at h;case h_2=>cases h
  rename_i x;cases hb:(Nat.beq i n&&Nat.beq x.length g) with
  | false=>rw[hb] at h;cases h
  | true=>
   rw[hb] at h;simp only[bP] at h;split at h
   ·rename_i C o;cases h;simp only[aG,bM] at hb;obtain ⟨rfl,f⟩:=hb;obtain ⟨y,z,A⟩:=Mc hl o;have e:RelL E x v.cells.toList:=hc;have B:=e.length;refine ⟨by rw[aO,y,f,cF,bI];omega,?_,?_⟩
    ·intro j p m;cases j with
     | zero=>
      simp at m;subst m;have u:v.cells.toList.length=g:=om;exact ⟨rfl,u⟩
     | succ j=>simp at m;have:=z j p m;exact ⟨om,this.2⟩
    simp only[jF];exact RelL.append e A
   cases h
theorem Jn {t e:TypeId}{g:Nat}(f:P.underlying t=some (.slice e))(c:jQ P e=some g):
  (Instr.buildSlice t 0 #[]).run P w= .ok (.slice (some ⟨w.heap.size,0,none⟩) 0 0) (w.alloc (.cells #[] e)):=by
 simp[Instr.buildSlice,run_underlying f,iI c,Instr.fill,newRow,Array.range_zero']
theorem Ih:∀ {l:List SV},A9 l=true->∀s∈l,∀c,s≠ .agg c
 | [],_,s,hs,_,_=>by simp at hs
 | x::r,h,s,hs,c,e=>by
  subst e;rcases bY.1 hs with f | f
  ·subst f;cases h
  refine Ih (l:=r) ?_ _ f c rfl;cases x<;>first | exact h | cases h
theorem OF {E:Env}{t:Ty}{l:List t.T}{b:Nat}{cs:List Value}{n:Nat}(e:E.ok b)(m:E.w.rangeAt b 0 cs)(g:n=l.length)(f:n<=maxL)(h:∀i,i<l.length->Reads E.w E.ok t (l.getD i t.dflt) ((cs.drop (i*t.size)).take t.size)):
  Rel E (.seq t l) (.slice (some ⟨b,0,none⟩) n n):=by
 refine .seq _ _ _ ⟨_,n,n,rfl,g,aI _,f,fun _=>⟨b,0,rfl,e,fun i hi=>⟨_,(h i om).length,?_,h i om⟩⟩⟩;intro j v c;rw[aL] at c;split at c
 ·rw[aX] at c;have:=m (i*t.size+j) v c;simpa [iS] using this
 cases c
theorem wN (J:Inv G H loc ver w){t:TypeId}{len:Nat}{g:List (Nat × SV)}{vs:List (Nat × Value)}{K:SV->List HO->Prop}(h:tJ P t len g H K)(F:RelP (envOf G H loc ver w) g vs):
  ∃v w',(Instr.buildSlice t len vs.toArray).run P w= .ok v w'/\Res G (envOf G H loc ver w) K v w':=by
 unfold tJ at h;have h':=bD h;clear h;obtain ⟨n,h⟩:=h';simp only[aG,bM,yM] at n;split at h;case h_2=>cases h
 rename_i e he;have hu:=fS he;split at h;case h_2=>cases h
 rename_i sz hs;have h':=bD h;clear h;obtain ⟨B,h⟩:=h';simp only[aG,yM] at B;obtain ⟨ie,a2,u⟩:=Dh hs;have c:∃z,ie.zero=some z:=by
  have:=B.2;simp only[IE,a2] at this;exact Option.isSome_iff_exists.1 this
 have Z:∀ {ps:List (Nat × SV)} {vs:List (Nat × Value)},RelP (envOf G H loc ver w) ps vs->ps.length=vs.length:=by
  intro ps vs h
  induction h with
  | nil=>rfl
  | cons i s v l vs _ _ _ ih=>simp[ih]
 have a6:=Z F
 -- what the model lays, where there is an element
 have m:∀(a1:∀j p,vs[j]? =some p->p.1=0+j/\p.2.cells.toList.length=sz),0<len->∀(hz:∃z,ie.zero=some z),
   (Instr.buildSlice t len vs.toArray).run P w= .ok (.slice (some ⟨w.heap.size,0,none⟩) len len) (w.alloc (.cells ⟨vs.flatMap fun p=>p.2.cells.toList⟩ e)):=by
  rintro a1 h0 ⟨z,hz⟩;have a9:0<sz:=by simpa using B.1.1
  have a8:0<len*ie.size:=sM h0 om;have b1:len*ie.size<=1000*1000:=eK n.2 (by have:=B.1.2;omega);have a0:vs.length=len:=om;refine run_buildSlice w t e len vs.toArray _ ie z hu a2 hz om om ?_;have D:(vs.flatMap fun p=>p.2.cells.toList).length=len*ie.size:=by
   have:∀(l:List (Nat × Value)),(∀p∈l,p.2.cells.toList.length=sz)->(l.flatMap fun p=>p.2.cells.toList).length=l.length*sz:=by
    intro l x
    induction l with
    | nil=>simp
    | cons p r ih=>
     simp only[jF,aO,x p (cQ ..),ih fun q hq=>x q (cC _ hq),cF,bI];omega
   rw[this vs ?_,a0,u];intro p F;obtain ⟨j,E,rfl⟩:=fV F;exact (a1 j _ (aY E)).2
  have:=Xo (size:=sz) vs 0 ((Array.range (len*ie.size)).map (z.cells[· %z.cells.size]!)) a1 (by simp[a0,u]);rw[<- u] at this;rw[show vs.toArray.toList=vs from by simp,this];simp[a0]
 split at h
 ·rename_i ty a7;obtain ⟨W,h'⟩:=bD h;have C:=bM.1 W;clear h W
  revert h'
  intro h;split at h
  ·cases F;rw[cD] at h;have h0:len=0:=by simpa using n.1.symm
   subst h0;refine ⟨_,_,Jn hu hs,?_⟩;have hf:=J.fresh (w':=w.alloc (.cells #[] e)) (.vec 1 ty [] e) (zT (some (w.heap.size,0)) (0) (0)) 1 si rfl rfl rfl (fun b Y=>Below.heap_alloc w _ b Y) (by intro b Y;simp[Owns] at Y;omega)
    (fun hx=>⟨rfl,Nat.one_pos,rfl,aF _,[],⟨si,.inr ⟨w.heap.size,0, #[],rfl,aF _,mT w _,aI _,aF _,si,si⟩⟩,fun i hi=>absurd hi (aT _)⟩)
   refine ⟨_,_,_,_,h,hf.1,?_,hf.2⟩;refine .ref _ _ _ (by exact nI rfl) Nat.one_pos (by simp[envOf,bF]) fun _=>?_;simp[envOf,bF,Core.head]
  rename_i a5;split at h;case h_2=>cases h
  rename_i l x;rw[cD] at h;obtain ⟨h1,X,h3,h4⟩:=Et F x;have h0:0<len:=by
   cases g with
   | nil=>exact (a5 rfl).elim
   | cons p r=>rw[<- n.1];simp
  rcases h.or with h | h
  ·refine ⟨_,_,m (by rw[C];exact X) h0 c,?_⟩;have o:=J.grow (w':=w.alloc (.cells ⟨vs.flatMap fun p=>p.2.cells.toList⟩ e)) ((Below.refl _ _).alloc (aI _) _);refine ⟨_,_,_,_,h,o.1,?_,o.2⟩;refine OF (cs:=vs.flatMap fun p=>p.2.cells.toList) (BM J si) ?_ om (bA n.2 (by simp[maxL])) fun i hi=>(h4 i hi).mono o.2.cell o.2.ok;intro j v E;simp[envOf,E]
  rw[cD] at h;have D:(vs.flatMap fun p=>p.2.cells.toList).length=len*ty.size:=by
   have:∀(l:List (Nat × Value)),(∀p∈l,p.2.cells.toList.length=ty.size)->(l.flatMap fun p=>p.2.cells.toList).length=l.length*ty.size:=by
    intro l x
    induction l with
    | nil=>simp
    | cons p r ih=>
     simp only[jF,aO,x p (cQ ..),ih fun q hq=>x q (cC _ hq),cF,bI];omega
   rw[this vs ?_]
   ·congr 1;omega
   intro p F;obtain ⟨j,E,rfl⟩:=fV F;exact (X j _ (aY E)).2
  have a3:length (α:=ty.T) l=len:=om;refine ⟨_,_,m (by rw[C];exact X) h0 c,?_⟩;have hf:=J.fresh (w':=w.alloc (.cells ⟨vs.flatMap fun p=>p.2.cells.toList⟩ e)) (.vec 1 ty l e) (zT (some (w.heap.size,0)) len len) 1 si rfl rfl rfl (fun b Y=>Below.heap_alloc w _ b Y) (by intro b Y;simp[Owns] at Y;omega)
   (fun hx=>⟨rfl,Nat.one_pos,a3.symm,by show len<=140737488355328;omega,vs.flatMap (fun p=>p.2.cells.toList),⟨D,.inr ⟨w.heap.size,len,_,rfl,aF _,mT w _,aI _,by simp[maxLen];omega,kU (Eq.symm (by simpa using D)),by rw[cZ (by simpa using kU D)]⟩⟩,fun i hi=>(h4 i (by have a':i<len:=hi;omega)).mono hx.cell hx.ok⟩)
  refine ⟨_,_,_,_,h,hf.1,?_,hf.2⟩;refine .ref _ _ _ (by exact nI rfl) Nat.one_pos (by simp[envOf,bF]) fun _=>?_;simp[envOf,bF,Core.head]
 rename_i a7;obtain ⟨C,h⟩:=bD h;have y:0<len:=by simpa using C
 cases A:Nat.beq sz 1 with
 | true=>
  rw[A] at h;simp only[bP] at h;have A:=bM.1 A;split at h;case h_2=>cases h
  rename_i l x;obtain ⟨a4,h⟩:=bD h;rw[lW] at h;obtain ⟨h1,X,h3⟩:=Mb F x;have f:=h3 (Ih a4);refine ⟨_,_,m (by rw[A];exact X) y c,?_⟩;have o:=J.grow (w':=w.alloc (.cells ⟨vs.flatMap fun p=>p.2.cells.toList⟩ e)) ((Below.refl _ _).alloc (aI _) _);refine ⟨_,_,_,_,h,o.1,?_,o.2⟩;refine .lit 1 len _ 0 l _ (f.ext o.2) ?_ (BM J si) ?_
  ·rw[<- f.length];omega
  intro j v E;simp[envOf,E]
 | false=>
  rw[A] at h;simp only[cM] at h;split at h;case h_2=>cases h
  rename_i l x;rw[lW,Qd] at h;obtain ⟨h1,X,f⟩:=Mc F x;refine ⟨_,_,m X y c,?_⟩;have o:=J.grow (w':=w.alloc (.cells ⟨vs.flatMap fun p=>p.2.cells.toList⟩ e)) ((Below.refl _ _).alloc (aI _) _);refine ⟨_,_,_,_,h,o.1,?_,o.2⟩;refine .lit sz len _ 0 l _ (f.ext o.2) ?_ (BM J si) ?_
  ·rw[<- f.length,h1,<- a6,n.1]
  intro j v E;simp[envOf,E]
end
end Go.Eng
end
