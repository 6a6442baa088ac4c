/-
  Part 1: a symbolic executor over the model, contracts of functions and plain laws.
-/
import Derived.CallsIn
import Derived.DeepKeys3
import Derived.Deep.MidRow
import Derived.Laws.Append
import Derived.Below
import Derived.Laws.AppendOwn
import Derived.RangeFuncOwn
import Derived.Laws.CopyRow
import Derived.RangeFuncBound
import Derived.IntWalk
import Derived.Laws.Small
import Derived.Laws.MakeOwn
import Derived.Great.BuildSlice
import Derived.Laws.OwnMore
set_option linter.unusedVariables false
set_option linter.unusedSimpArgs false
set_option maxRecDepth 10000
set_option maxHeartbeats 80000000
section
namespace Go.Eng
inductive Ty where
 | int (k:IntKind)
 | bool
 | str
 | pair (a b:Ty)
 | slice (t:Ty)
 deriving DecidableEq
@[reducible] def Ty.T:Ty→Type
 | .int _=>Int
 | .bool=>Bool
 | .str=>List UInt8
 | .pair a b=>a.T × b.T
 | .slice t=>List t.T
def Ty.dflt:(t:Ty)→t.T
 | .int _=>(0:Int)
 | .bool=>false
 | .str=>[]
 | .pair a b=>(a.dflt,b.dflt)
 | .slice _=>[]
def Ty.flat:Ty→Bool
 | .slice _=>false
 | .pair a b=>a.flat&&b.flat
 | _=>true
def Ty.size:Ty→Nat
 | .pair a b=>a.size+b.size
 | _=>1
structure MapS (α:Type) where
 es:List (Nat × Int × α)
 clock:Nat
def nR {α:Type}:List (Nat × Int × α)→Int→Option α
 | [],_=>none
 | e::r,n=>if e.2.1=n then some e.2.2 else nR r n
def setK {α:Type}:List (Nat × Int × α)→Int→α→List (Nat × Int × α)
 | [],_,_=>[]
 | e::r,n,x=>if e.2.1=n then (e.1,n,x)::r else e::setK r n x
def delK {α:Type}:List (Nat × Int × α)→Int→List (Nat × Int × α)
 | [],_=>[]
 | e::r,n=>if e.2.1=n then r else e::delK r n
def MapS.get {α:Type} (m:MapS α) (n:Int):Option α:=nR m.es n
def MapS.put {α:Type} (m:MapS α) (n:Int) (x:α):MapS α:=
 match nR m.es n with
 | some _=>⟨setK m.es n x,m.clock⟩
 | none=>⟨m.es++ [(m.clock,n,x)],m.clock+1⟩
def MapS.new {α:Type}:MapS α:=⟨[],0⟩
structure MapS.Wf {α:Type} (m:MapS α):Prop where
 born:∀e∈m.es,e.1<m.clock
 times:m.es.Pairwise fun a b=>a.1≠b.1
 keys:m.es.Pairwise fun a b=>a.2.1≠b.2.1
inductive SV where
 | any
 | val (v:Value)
 | bl (p:Prop) (d:Decidable p)
 | str (s:List UInt8)
 | seq (t:Ty) (xs:List t.T)
 | lit (es:Nat) (cells:List SV)
 | elem (t:Ty) (xs:List t.T) (i off:Nat)
 | lelem (cells:List SV) (off:Nat)
 | ptr (nm off:Nat)
 | ref (nm ver:Nat)
 | vptr (nm ver i sz off:Nat)
 | wide (nm ver:Nat)
 | agg (l:List SV)
 | tup (l:List SV)
 | clo (f:FuncId) (first caps:List SV)
 | yld (l:Nat)
 | itr (n:Nat) (items:Nat→List SV)
 | mp (nm:Nat)
 | sub (nm ver s i:Nat)
 | subp (nm ver s:Nat)
 | part (nm ver i j z:Nat)
 | lim (nm ver i z:Nat)
 | ifc
 | sft (i:Option Nat)
 | wcel (n:Int)
 | fmp (ks:List (Int × Int)) (vs:List SV)
 | num (k:IntKind)
inductive HO where
 | dead
 | frc (l:List SV)
 | gone
 | yst (st:Option Nat) (n:Nat) (items:Nat→List SV)
 | cells (l:List SV) (elem:TypeId)
 | vec (ver:Nat) (t:Ty) (xs:List t.T) (elem:TypeId)
 | fro (ver:Nat) (t:Ty) (xs:List t.T)
 | map (k:IntKind) (t:Ty) (m:MapS t.T)
 | mit (m since:Nat) (seen:List Nat) (c0:Nat)
 | res
 | vv (ver s:Nat) (t:Ty) (xss:List (List t.T)) (pend:Option (Nat × List t.T)) (eo ei:TypeId)
 | lnt (ver:Nat) (t:Ty) (xs:List t.T)
 | qm (ks:List (Int × Int)) (vs:List SV)
 | frm (ks:List (Int × Int)) (vs:List SV)
structure St where
 tmps:List (Nat × SV)
 heap:List HO
structure Need (p C:Prop):Prop where
 ok:p
 go:C
structure Giv (p C:Prop):Prop where
 go:p→C
structure Br (p A B:Prop):Prop where
 yes:p→A
 no:¬p→B
def chk (k:IntKind) (n:Int) (C:Prop):Prop:=
 match k with
 | .i8=>Need (-128≤n∧n≤127) C
 | .i16=>Need (-32768≤n∧n≤32767) C
 | .i32=>Need (-2147483648≤n∧n≤2147483647) C
 | .i64=>Need (-9223372036854775808≤n∧n≤9223372036854775807) C
 | .u8=>Need (0≤n∧n≤255) C
 | .u16=>Need (0≤n∧n≤65535) C
 | .u32=>Need (0≤n∧n≤4294967295) C
 | .u64=>Need (0≤n∧n≤18446744073709551615) C
def giv (k:IntKind) (n:Int) (C:Prop):Prop:=
 match k with
 | .i8=>Giv (-128≤n∧n≤127) C
 | .i16=>Giv (-32768≤n∧n≤32767) C
 | .i32=>Giv (-2147483648≤n∧n≤2147483647) C
 | .i64=>Giv (-9223372036854775808≤n∧n≤9223372036854775807) C
 | .u8=>Giv (0≤n∧n≤255) C
 | .u16=>Giv (0≤n∧n≤65535) C
 | .u32=>Giv (0≤n∧n≤4294967295) C
 | .u64=>Giv (0≤n∧n≤18446744073709551615) C
def lo:IntKind→Int
 | .i8=> -128 | .i16=> -32768 | .i32=> -2147483648 | .i64=> -9223372036854775808 | _=>0
def hi:IntKind→Int
 | .i8=>127 | .i16=>32767 | .i32=>2147483647 | .i64=>9223372036854775807
 | .u8=>255 | .u16=>65535 | .u32=>4294967295 | .u64=>18446744073709551615
def inK (k:IntKind) (n:Int):Prop:=lo k≤n∧n≤hi k
theorem oX {k:IntKind} {n:Int} {C:Prop} (h:chk k n C):inK k n∧C:=by cases k<;>exact ⟨h.ok,h.go⟩
theorem Nm {k:IntKind} {n:Int} {C:Prop} (h:giv k n C) (hk:inK k n):C:=by cases k<;>exact h.go hk
def look (l:List (Nat × SV)) (t:Nat):SV:=
 match l with
 | []=>.any
 | (i,v)::r=>bif Nat.beq i t then v else look r t
def put (l:List (Nat × SV)) (t:Nat) (v:SV):List (Nat × SV):=
 match l with
 | []=>[(t,v)]
 | (i,u)::r=>bif Nat.beq i t then (t,v)::r else (i,u)::put r t v
def aQ {α:Type} {β:Sort _}:List α→(List α→β)→β
 | [],k=>k []
 | x::r,k=>aQ r fun r'=>k (x::r')
theorem aL {α:Type} {β:Sort _} (l:List α) (k:List α→β):aQ l k=k l:=by
 induction l generalizing k with
 | nil=>rfl
 | cons x r ih=>simp only[aQ];rw[ih]
def cst (v:Value):SV:=
 match v with
 | .int k n=>bif decide (lo k≤n)&&decide (n≤hi k) then .val (.int k n) else .any
 | .string s=>bif Nat.ble s.data.toList.length 140737488355328 then .str s.data.toList else .any
 | v=>.val v
def ev (l:List (Nat × SV)):Operand→SV
 | .tmp t=>look l t
 | .const v=>cst v
 | .func f=>.clo f [] []
 | .global _=>.any
def hnf (s:SV) (K:SV→Prop):Prop:=
 match s with
 | .any=>K .any
 | .val v=>K (.val v)
 | .bl p d=>K (.bl p d)
 | .str s=>K (.str s)
 | .seq t xs=>K (.seq t xs)
 | .lit e c=>K (.lit e c)
 | .elem t xs i o=>K (.elem t xs i o)
 | .lelem c o=>K (.lelem c o)
 | .ptr a b=>K (.ptr a b)
 | .ref a b=>K (.ref a b)
 | .vptr a b i z o=>K (.vptr a b i z o)
 | .wide a b=>K (.wide a b)
 | .agg l=>K (.agg l)
 | .tup l=>K (.tup l)
 | .clo f a b=>K (.clo f a b)
 | .yld l=>K (.yld l)
 | .itr n i=>K (.itr n i)
 | .mp n=>K (.mp n)
 | .sub a b c d=>K (.sub a b c d)
 | .subp a b c=>K (.subp a b c)
 | .part a b c d e=>K (.part a b c d e)
 | .lim a b c d=>K (.lim a b c d)
 | .ifc=>K .ifc
 | .num k=>K (.num k)
 | .sft i=>K (.sft i)
 | .wcel n=>K (.wcel n)
 | .fmp a b=>K (.fmp a b)
theorem dB (s:SV) (K:SV→Prop):hnf s K=K s:=by cases s<;>rfl
def hnfL (l:List SV) (K:List SV→Prop):Prop:=
 match l with
 | []=>K []
 | x::r=>hnf x fun x'=>hnfL r fun r'=>K (x'::r')
theorem dQ (l:List SV) (K:List SV→Prop):hnfL l K=K l:=by
 induction l generalizing K with
 | nil=>rfl
 | cons x r ih=>simp only[hnfL];rw[dB,ih]
def eA:List (Nat × SV)→(List (Nat × SV)→Prop)→Prop
 | [],k=>k []
 | (t,v)::r,k=>hnf v fun v'=>eA r fun r'=>k ((t,v')::r')
theorem eT (l:List (Nat × SV)) (k:List (Nat × SV)→Prop):eA l k=k l:=by
 induction l generalizing k with
 | nil=>rfl
 | cons x r ih=>simp only[eA];rw[dB,ih]
def hnfO (o:HO) (K:HO→Prop):Prop:=
 match o with
 | .dead=>K .dead
 | .frc l=>hnfL l fun l'=>K (.frc l')
 | .gone=>K .gone
 | .yst st n items=>K (.yst st n items)
 | .cells l e=>hnfL l fun l'=>K (.cells l' e)
 | .vec v t xs e=>K (.vec v t xs e)
 | .fro v t xs=>K (.fro v t xs)
 | .map k t m=>K (.map k t m)
 | .mit m s l c=>K (.mit m s l c)
 | .res=>K .res
 | .vv a b c d e f g=>K (.vv a b c d e f g)
 | .lnt a b c=>K (.lnt a b c)
 | .qm a b=>aQ a fun a'=>hnfL b fun b'=>K (.qm a' b')
 | .frm a b=>aQ a fun a'=>hnfL b fun b'=>K (.frm a' b')
theorem Yz (s:HO) (K:HO→Prop):hnfO s K=K s:=by cases s<;>simp only[hnfO,dQ,aL]
def gA:List HO→(List HO→Prop)→Prop
 | [],k=>k []
 | o::r,k=>hnfO o fun o'=>gA r fun r'=>k (o'::r')
theorem fR (l:List HO) (k:List HO→Prop):gA l k=k l:=by
 induction l generalizing k with
 | nil=>rfl
 | cons x r ih=>simp only[gA];rw[Yz,ih]
def setT (N:Nat) (l:List (Nat × SV)) (d:Option Nat) (v:SV) (K:List (Nat × SV)→Prop):Prop:=
 match d with
 | none=>K l
 | some t=>bif Nat.blt t N then aQ (put l t v) K else False
def enc:(t:Ty)→t.T→List SV
 | .int k,n=>[.val (.int k n)]
 | .bool,b=>[.bl (b=true) inferInstance]
 | .str,s=>[.str s]
 | .pair a b,x=>enc a x.1++enc b x.2
 | .slice t,xs=>[.seq t xs]
def givT:(t:Ty)→t.T→Prop→Prop
 | .int k,n,C=>giv k n C
 | .pair a b,x,C=>givT a x.1 (givT b x.2 C)
 | .slice t,xs,C=>Giv (List.length (α:=t.T) xs≤140737488355328) C
 | _,_,C=>C
def dfK:(t:Ty)→(t.T→Prop)→Prop
 | .int _,K=>K (0:Int)
 | .bool,K=>K false
 | .str,K=>K []
 | .pair a b,K=>dfK a fun x=>dfK b fun y=>K (x,y)
 | .slice _,K=>K []
theorem wR:∀(t:Ty) (K:t.T→Prop),dfK t K=K t.dflt
 | .int _,_=>rfl
 | .bool,_=>rfl
 | .str,_=>rfl
 | .pair a b,K=>by simp only[dfK,Ty.dflt];rw[wR a,wR b]
 | .slice _,_=>rfl
structure Ix (n:Int) (C:Nat→Prop):Prop where
 go:∀i:Nat,n=(i:Int)→C i
theorem Ix.nat {j:Nat} {C:Nat→Prop} (h:C j):Ix (j:Int) C:=by
 refine ⟨fun i e=>?_⟩
 have:j=i:=by omega
 subst this;exact h
theorem Ix.add {j:Nat} {C:Nat→Prop} (h:C (j+1)):Ix ((j:Int)+1) C:=by
 refine ⟨fun i e=>?_⟩
 have:j+1=i:=by omega
 subst this;exact h
theorem Ix.zero {C:Nat→Prop} (h:C 0):Ix 0 C:=by
 refine ⟨fun i e=>?_⟩
 have:0=i:=by omega
 subst this;exact h
theorem Ix.one {C:Nat→Prop} (h:C 1):Ix 1 C:=by
 refine ⟨fun i e=>?_⟩
 have:1=i:=by omega
 subst this;exact h
theorem Ix.two {C:Nat→Prop} (h:C 2):Ix 2 C:=by
 refine ⟨fun i e=>?_⟩
 have:2=i:=by omega
 subst this;exact h
theorem Br.mkY {p A B:Prop} (hp:p) (h:A):Br p A B:=⟨fun _=>h,fun hn=>absurd hp hn⟩
theorem Br.mkN {p A B:Prop} (hp:¬p) (h:B):Br p A B:=⟨fun h=>absurd h hp,fun _=>h⟩
theorem Ix.use {n:Int} {C:Nat→Prop} (h:Ix n C) (h0:0≤n):C n.toNat:=h.go _ (by omega)
def one (l:List SV):SV:=
 match l with
 | [v]=>v
 | vs=>.agg vs
def hget (H:List HO) (n:Nat):HO:=H.getD n .dead
def hset (H:List HO) (n:Nat) (o:HO):List HO:=H.set n o
def qC:HO→Bool
 | .res=>true
 | _=>false
def hasB (H:List HO) (nm:Nat):Bool:=Nat.blt nm H.length&& !qC (hget H nm)
def cC (H:List HO) (nm:Nat):Nat:=
 match hget H nm with
 | .vec v _ _ _=>v
 | .fro v _ _=>v
 | _=>0
def cur (H:List HO) (nm:Nat):SV:=.ref nm (cC H nm)
def oneC (H:List HO):SV→Bool
 | .val v=>match v with
  | .agg _=>false
  | .tuple _=>false
  | _=>true
 | .bl _ _=>true
 | .str _=>true
 | .seq _ _=>true
 | .lit _ _=>true
 | .elem _ _ _ _=>true
 | .lelem _ _=>true
 | .clo _ _ _=>true
 | .yld _=>true
 | .ifc=>true
 | .num _=>true
 | .wcel _=>true
 | .ptr nm _=>match hget H nm with
  | .cells _ _=>true
  | _=>false
 | .mp nm=>match hget H nm with
  | .map _ _ _=>true
  | .qm _ _=>true
  | _=>false
 | .fmp _ _=>true
 | .ref nm k=>match hget H nm with
  | .vec v _ _ _=>Nat.beq v k
  | .fro v _ _=>Nat.beq v k
  | .vv v _ _ _ _ _ _=>Nat.beq v k
  | _=>false
 | _=>false
def Nn (H:List HO):List SV→Bool
 | []=>true
 | x::r=>oneC H x&&Nn H r
def wT (H:List HO):SV→Bool
 | .agg _=>true
 | s=>oneC H s
def kH (H:List HO):List (Nat × SV)→Bool
 | []=>true
 | (_,x)::r=>wT H x&&kH H r
def live (H:List HO):SV→Bool
 | .ptr nm _=>match hget H nm with
  | .cells _ _=>true
  | _=>false
 | .vptr nm k _ _ _=>match hget H nm with
  | .vec v _ _ _=>Nat.beq v k
  | _=>false
 | .elem _ _ _ _=>true
 | .lelem _ _=>true
 | .wcel _=>true
 | _=>false
def No (H:List HO):SV→SV
 | .ref nm ver=>match hget H nm with
  | .vec v t xs _=>bif Nat.beq v ver then .seq t xs else .any
  | .fro v t xs=>bif Nat.beq v ver then .seq t xs else .any
  | _=>.any
 | s=>s
def frcV (l:List SV) (off:Nat):SV:=
 match l,off with
 | [.val (.int .i64 n)],0=>.wcel n
 | l,off=>.lelem l off
def view (lend:Bool) (H:List HO) (s:SV):SV:=
 match s with
 | .ref nm ver=>match hget H nm with
  | .vec v t xs _=>bif lend&&Nat.beq v ver then .seq t xs else .any
  | .fro v t xs=>bif Nat.beq v ver then .seq t xs else .any
  | _=>.any
 | .ptr nm off=>match hget H nm with
  | .frc l=>frcV l off
  | .cells l _=>bif lend then .lelem (l.map (No H)) off else .ptr nm off
  | _=>.ptr nm off
 | .subp nm ver s=>match hget H nm with
  | .lnt v t xs=>bif lend&&(t.flat&&(Nat.beq v ver&&Nat.beq s 0)) then .seq t xs else .any
  | _=>.any
 | .mp nm=>match hget H nm with
  | .frm ks vs=>.fmp ks vs
  | _=>.mp nm
 | s=>s
def bare:SV→Bool
 | .any=>true
 | .val _=>true
 | .bl _ _=>true
 | .str _=>true
 | .seq _ _=>true
 | .elem _ _ _ _=>true
 | .lit _ l=>bareL l
 | .lelem l _=>bareL l
 | .agg l=>bareL l
 | .tup l=>bareL l
 | .clo _ a b=>bareL a&&bareL b
 | .ifc=>true
 | .num _=>true
 | .wcel _=>true
 | .fmp _ l=>bareL l
 | _=>false
where bareL:List SV→Bool
 | []=>true
 | x::r=>bare x&&bareL r
def frzR (H:List HO):List SV→List HO
 | []=>H
 | .ref nm ver::r=>match hget H nm with
  | .vec v t xs _=>bif Nat.beq v ver then frzR (hset H nm (.fro v t xs)) r else frzR H r
  | _=>frzR H r
 | _::r=>frzR H r
def frz1 (H:List HO) (s:SV):List HO:=
 match s with
 | .ref nm ver=>match hget H nm with
  | .vec v t xs _=>bif Nat.beq v ver then hset H nm (.fro v t xs) else H
  | _=>H
 | .ptr nm _=>match hget H nm with
  | .cells l _=>bif bare.bareL (l.map (view false (frzR H l))) then hset (frzR H l) nm (.frc (l.map (view false (frzR H l)))) else H
  | _=>H
 | .mp nm=>match hget H nm with
  | .qm ks vs=>hset H nm (.frm ks vs)
  | _=>H
 | _=>H
def frz (H:List HO):List SV→List HO
 | []=>H
 | s::r=>frz (frz1 H s) r
def cL (H:List HO):List SV→List HO
 | []=>H
 | .agg l::r=>cL (frz H l) r
 | .tup l::r=>cL (frz H l) r
 | .clo _ a b::r=>cL (frz (frz H a) b) r
 | s::r=>cL (frz1 H s) r
def wU (lend:Bool) (H:List HO):SV→SV
 | .ref nm ver=>view lend H (.ref nm ver)
 | .ptr nm off=>view lend H (.ptr nm off)
 | .subp nm ver s=>view lend H (.subp nm ver s)
 | .mp nm=>view lend H (.mp nm)
 | .clo f a b=>.clo f (a.map (view lend H)) (b.map (view lend H))
 | .agg l=>.agg (l.map (view lend H))
 | .tup l=>.tup (l.map fun s=>match s with
   | .agg l=>.agg (l.map (view lend H))
   | s=>view lend H s)
 | s=>s
def tyOf (P:Program):Nat→TypeId→Option Ty
 | 0,_=>none
 | n+1,t=>match P.underlying t with
  | some (.int k)=>some (.int k)
  | some .bool=>some .bool
  | some .string=>some .str
  | some (.slice e)=>(tyOf P n e).map .slice
  | some (.struct fs)=>flds P n fs.toList
  | _=>none
where flds (P:Program):Nat→List Field→Option Ty
 | 0,_=>none
 | _,[]=>none
 | n+1,[f]=>tyOf P n f.type
 | n+1,f::r=>match tyOf P n f.type,flds P n r with
  | some a,some b=>some (.pair a b)
  | _,_=>none
def aggB (P:Program) (t:TypeId):Option Bool:=
 match P.underlying t with
 | some (.struct _)=>some true
 | some (.array _ _)=>some true
 | some _=>some false
 | none=>none
def cP (P:Program) (t:TypeId):Option Nat:=
 match P.info? t with
 | some i=>some i.size
 | none=>none
def aP:SV→List SV
 | .agg l=>l
 | s=>[s]
def gL (P:Program) (t:TypeId):Option (List SV):=
 match P.info? t with
 | some i=>match i.zero with
  | some z=>some (z.cells.toList.map cst)
  | none=>none
 | none=>none
structure Con where
 f:FuncId
 fresh:Bool
 cl:List SV→(SV→Prop)→Prop
 lin:Option (Nat × Bool × (List SV→HO→(SV→HO→Prop)→Prop)):=none
 own:Option (List SV→(SV→HO→Prop)→Prop):=none
 hp:Option (List SV→List HO→(SV→List HO→Prop)→Prop):=none
abbrev aI (f:FuncId) (fresh:Bool) (cl:List SV→(SV→Prop)→Prop):Con:=⟨f,fresh,cl,none,none,none⟩
abbrev wV (f:FuncId) (pos:Nat) (same:Bool) (cl:List SV→HO→(SV→HO→Prop)→Prop):Con:=⟨f,true,fun _ _=>False,some (pos,same,cl),none,none⟩
abbrev Sx (f:FuncId) (fresh:Bool) (pos:Nat) (same:Bool) (lin:List SV→HO→(SV→HO→Prop)→Prop) (cl:List SV→(SV→Prop)→Prop):Con:=⟨f,fresh,cl,some (pos,same,lin),none,none⟩
abbrev Sy (f:FuncId) (cl:List SV→(SV→HO→Prop)→Prop):Con:=⟨f,true,fun _ _=>False,none,some cl,none⟩
abbrev nM (f:FuncId) (cl:List SV→List HO→(SV→List HO→Prop)→Prop):Con:=⟨f,true,fun _ _=>False,none,none,some cl⟩
def rM (Γ:List Con) (f:FuncId):Option Con:=
 match Γ with
 | []=>none
 | c::r=>bif Nat.beq c.f f then some c else rM r f
def Bh {t' t:Ty} (e:t'=t) (ys:List t'.T) (K:List t.T→Prop):Prop:=Eq.rec (motive:=fun t _=>(List t.T→Prop)→Prop) (fun K=>K ys) e K
theorem nS {t' t:Ty} (e:t'=t) (ys:List t'.T) (K:List t.T→Prop):Bh e ys K=K (e ▸ ys):=by subst e;rfl
def qD (t t':Ty) (xs:List t.T) (ys:List t'.T):Prop:=if h:t=t' then Bh h xs (fun xs=>xs=ys) else False
def ent:SV→SV→Prop
 | _,.any=>True
 | .val (.int k a),.val (.int k' b)=>k=k'∧a=b
 | .val (.bool a),.val (.bool b)=>a=b
 | .val (.bool true),.bl q _=>q
 | .val (.bool false),.bl q _=>¬q
 | .bl p _,.bl q _=>p↔q
 | .bl p _,.val (.bool b)=>p↔b=true
 | .val v,.val v'=>v=v'
 | .str s,.str s'=>s=s'
 | .seq t xs,.seq t' ys=>qD t t' xs ys
 | .val (.slice none 0 0),.seq _ ys=>ys= []
 | .ptr a i,.ptr b j=>a=b∧i=j
 | .ref a i,.ref b j=>a=b∧i=j
 | .mp a,.mp b=>a=b
 | .yld a,.yld b=>a=b
 | .sft a,.sft b=>a=b
 | .wcel a,.wcel b=>a=b
 | .fmp k l,.fmp k' l'=>k=k'∧entL l l'
 | .agg l,.agg l'=>entL l l'
 | .tup l,.tup l'=>entL l l'
 | .clo f a b,.clo f' a' b'=>f=f'∧entL a a'∧entL b b'
 | .lit e l,.lit e' l'=>e=e'∧entL l l'
 | .lelem l i,.lelem l' i'=>i=i'∧entL l l'
 | .ifc,.ifc=>True
 | .num a,.num b=>a=b
 | .val (.int k _),.num b=>k=b
 | .val .nilIface,.ifc=>True
 | _,_=>False
where entL:List SV→List SV→Prop
 | [],[]=>True
 | x::r,y::r'=>ent x y∧entL r r'
 | _,_=>False
def Np:SV→SV
 | .val v=>.val v
 | .bl p d=>.bl p d
 | .str s=>.str s
 | _=>.any
def Gn:SV→SV
 | .agg l=>.agg (l.map Np)
 | s=>Np s
def yldV (H:List HO):SV→SV
 | .ref nm k=>match hget H nm with
  | .vec v t xs _=>bif Nat.beq v k&&t.flat then .seq t xs else .any
  | _=>.any
 | s=>Gn s
structure Two (A B:Prop):Prop where
 one:A
 two:B
structure Alt (A B:Prop):Prop where
 or:A∨B
theorem Alt.l {A B:Prop} (h:A):Alt A B:=⟨.inl h⟩
theorem Alt.r {A B:Prop} (h:B):Alt A B:=⟨.inr h⟩
def uT (op:BinOp) (k:IntKind) (a b:Int):Int:=
 match op with
 | .and=>k.wrap (BitVec.ofInt k.bits a&&& BitVec.ofInt k.bits b).toNat
 | .or=>k.wrap (BitVec.ofInt k.bits a ||| BitVec.ofInt k.bits b).toNat
 | .xor=>k.wrap (BitVec.ofInt k.bits a ^^^BitVec.ofInt k.bits b).toNat
 | _=>k.wrap (BitVec.ofInt k.bits a&&& ~~~(BitVec.ofInt k.bits b)).toNat
def shlI (k:IntKind) (a b:Int):Int:=k.wrap (a*2^ (min b.toNat k.bits))
def shrI (k:IntKind) (a b:Int):Int:=a.fdiv (2^ (min b.toNat k.bits))
def Dn (op:BinOp) (k:IntKind) (a b:Int) (K:SV→Prop):Prop:=
 match op with
 | .shl=>Need (0≤b) (K (.val (.int k (shlI k a b))))
 | .shr=>Need (0≤b) (K (.val (.int k (shrI k a b))))
 | _=>False
def Nq:BinOp→Bool
 | .shl=>true
 | .shr=>true
 | _=>false
def Ta (op:BinOp) (k:IntKind) (a b:Int) (K:SV→Prop):Prop:=
 match op with
 | .add=>chk k (a+b) (K (.val (.int k (a+b))))
 | .sub=>chk k (a-b) (K (.val (.int k (a-b))))
 | .mul=>chk k (a*b) (K (.val (.int k (a*b))))
 | .quo=>Alt (Need (0≤a∧0<b) (K (.val (.int k (a/b))))) (Need (¬b=0) (chk k (a.tdiv b) (K (.val (.int k (a.tdiv b))))))
 | .rem=>Alt (Need (0≤a∧0<b) (K (.val (.int k (a%b))))) (Need (¬b=0) (K (.val (.int k (a.tmod b)))))
 | .and=>K (.val (.int k (uT .and k a b)))
 | .or=>K (.val (.int k (uT .or k a b)))
 | .xor=>K (.val (.int k (uT .xor k a b)))
 | .andNot=>K (.val (.int k (uT .andNot k a b)))
 | .eql=>K (.bl (a=b) inferInstance)
 | .neq=>K (.bl (¬a=b) inferInstance)
 | .lss=>K (.bl (a<b) inferInstance)
 | .leq=>K (.bl (a≤b) inferInstance)
 | .gtr=>K (.bl (b<a) inferInstance)
 | .geq=>K (.bl (b≤a) inferInstance)
 | _=>False
def Tb (op:BinOp) (k:IntKind) (K:SV→Prop):Prop:=
 match op with
 | .add=>K (.num k)
 | .lss=>∀p:Prop,K (.bl p (Classical.propDecidable p))
 | .leq=>∀p:Prop,K (.bl p (Classical.propDecidable p))
 | .gtr=>∀p:Prop,K (.bl p (Classical.propDecidable p))
 | .geq=>∀p:Prop,K (.bl p (Classical.propDecidable p))
 | _=>False
def oY (P:Program) (t:TypeId):Bool:=match P.underlying t with
 | some (.slice _)=>true
 | _=>false
def tM (P:Program) (t:TypeId):Bool:=match P.underlying t with
 | some .bool=>true
 | _=>false
def rN (op:BinOp) (p:Prop) (K:SV→Prop):Prop:=
 match op with
 | .eql=>∀q:Prop,(q→p)→K (.bl q (Classical.propDecidable q))
 | .neq=>∀q:Prop,(¬q→p)→K (.bl q (Classical.propDecidable q))
 | _=>False
def Tc (op:BinOp) (a b:List UInt8) (K:SV→Prop):Prop:=
 match op with
 | .eql=>K (.bl (a=b) inferInstance)
 | .neq=>K (.bl (¬a=b) inferInstance)
 | .add=>Need (a.length+b.length≤140737488355328) (K (.str (a++b)))
 | .lss=>K (.bl (Op.bytesLess a b=true) inferInstance)
 | .gtr=>K (.bl (¬Op.bytesLess a b=true∧¬a=b) inferInstance)
 | _=>False
def lZ (P:Program) (t:TypeId):Bool:=match P.underlying t with
 | some (.interface _)=>true
 | _=>false
def wE:Operand→Bool
 | .const _=>true
 | _=>false
def nilT (op:BinOp) (K:SV→Prop):Prop:=
 match op with
 | .eql=>K (.val (.bool true))
 | .neq=>K (.val (.bool false))
 | _=>False
def tN (op:BinOp) (p q:Prop) (K:SV→Prop):Prop:=
 match op with
 | .eql=>K (.bl (p↔q) (Classical.propDecidable _))
 | .neq=>K (.bl (¬(p↔q)) (Classical.propDecidable _))
 | _=>False
def Kw (a b:SV) (c:SV) (K:SV→Prop):Prop:=
 match c with
 | .val (.bool true)=>hnf a K
 | .val (.bool false)=>hnf b K
 | .bl p _=>Br p (hnf a K) (hnf b K)
 | _=>False
def wW (k:IntKind) (a:Int):List SV→(SV→Prop)→Prop
 | [],K=>K (.val (.int k a))
 | .val (.int k' b)::r,K=>bif decide (k=k') then wW k (max a b) r K else False
 | _,_=>False
def wX (k:IntKind) (a:Int):List SV→(SV→Prop)→Prop
 | [],K=>K (.val (.int k a))
 | .val (.int k' b)::r,K=>bif decide (k=k') then wX k (min a b) r K else False
 | _,_=>False
def fD (ag:Bool) (off sz:Nat) (l:List SV) (K:SV→Prop):Prop:=
 match ag with
 | true=>bif Nat.ble (off+sz) l.length then aQ ((l.drop off).take sz) fun l'=>K (.agg l') else False
 | false=>bif Nat.blt off l.length then hnf (l.getD off .any) K else False
def Kx (P:Program) (t:TypeId) (H:List HO) (s:SV) (K:SV→Prop):Prop:=
 match aggB P t,cP P t with
 | some ag,some sz=>match s with
  | .ptr nm off=>match hget H nm with
   | .cells l _=>fD ag off sz l K
   | _=>False
  | .elem ty xs i off=>dfK ty fun d=>givT ty (xs.getD i d) (fD ag off sz (enc ty (xs.getD i d)) K)
  | .lelem l off=>fD ag off sz l K
  | .wcel n=>fD ag 0 sz [.val (.int .i64 n)] K
  | .sft (some i)=>match hget H 0 with
   | .yst (some _) m _=>bif !ag&&Nat.beq sz 1 then Need (i<m) (K .any) else False
   | _=>False
  | .vptr nm ver i z off=>match hget H nm with
   | .vec v ty xs _=>bif Nat.beq v ver&&Nat.beq z ty.size then dfK ty fun d=>givT ty (xs.getD i d) (fD ag off sz (enc ty (xs.getD i d)) K) else False
   | _=>False
  | _=>False
 | _,_=>False
def Ky:List SV→Option Int
 | [.val (.int _ n)]=>some n
 | _=>none
def Nr:List SV→Option Bool
 | [.val (.bool b)]=>some b
 | [.bl _ d]=>some (@decide _ d)
 | _=>none
def Kz:List SV→Option (List UInt8)
 | [.str s]=>some s
 | _=>none
def Gp (t:Ty):List SV→Option (List t.T)
 | [.seq t' xs]=>if h:t'=t then some (h ▸ xs) else none
 | [.val (.slice none 0 0)]=>some []
 | _=>none
def dec:(t:Ty)→List SV→Option t.T
 | .int _,l=>Ky l
 | .bool,l=>Nr l
 | .str,l=>Kz l
 | .slice t,l=>Gp t l
 | .pair a b,l=>match dec a (l.take a.size),dec b (l.drop a.size) with
  | some x,some y=>some (x,y)
  | _,_=>none
def La (k:IntKind):List SV→Bool
 | [.val (.int k' _)]=>decide (k=k')
 | _=>false
def iF:(t:Ty)→List SV→Bool
 | .int k,l=>La k l
 | .pair a b,l=>iF a (l.take a.size)&&iF b (l.drop a.size)
 | _,_=>true
def setCells (l:List SV) (off:Nat):List SV→List SV
 | []=>l
 | v::r=>setCells (l.set off v) (off+1) r
def wF (P:Program) (t:TypeId) (H:List HO) (s x:SV) (K:List HO→Prop):Prop:=
 match s,cP P t with
 | .ptr nm off,some sz=>match hget H nm with
  | .cells l e=>bif wT H x&&Nn H (aP x)&&Nat.beq (aP x).length sz&&Nat.ble (off+sz) l.length then aQ (setCells l off (aP x)) fun l'=>aQ (hset H nm (.cells l' e)) K else False
  | _=>False
 | .vptr nm ver i z off,some sz=>match hget H nm with
  | .vec v ty xs e=>bif wT H x&&Nat.beq v ver&&Nat.beq z ty.size&&Nat.beq (aP x).length sz&&Nat.ble (off+sz) ty.size then (dfK ty fun d=>match setCells (enc ty (xs.getD i d)) off (aP x) with
   | l=>bif iF ty l then (match dec ty l with
    | some y=>aQ (hset H nm (.vec v ty (xs.set i y) e)) K
    | none=>False) else False) else False
  | _=>False
 | .wcel n,some sz=>match x with
  | .val (.int .i64 m)=>bif Nat.beq sz 1 then Need (m=n) (K H) else False
  | _=>False
 | _,_=>False
def mA (H:List HO) (o:HO) (K:SV→List HO→Prop):Prop:=aQ (H++ [o]) fun H'=>K (.ptr H.length 0) H'
def oZ (P:Program) (t:TypeId) (f:Nat):Option (Nat × Nat × Bool):=
 match P.underlying t with
 | some (.struct fs)=>match fs[f]? with
  | some fd=>match cP P fd.type,aggB P fd.type with
   | some sz,some ag=>some (fd.offset,sz,ag)
   | _,_=>none
  | none=>none
 | _=>none
def bK (P:Program) (t:TypeId):Option TypeId:=
 match P.underlying t with
 | some (.slice e)=>some e
 | _=>none
def cntK:List SV→Int→(Int→Prop)→Prop
 | [],n,K=>K n
 | _::r,n,K=>cntK r (n+1) K
theorem Dp:∀(l:List SV) (n:Int) (K:Int→Prop),cntK l n K=K (n+(l.length:Int))
 | [],n,K=>by simp[cntK]
 | _::r,n,K=>by simp only[cntK,List.length_cons];rw[Dp r];congr 1;omega
def cntW (es:Nat):List SV→Nat→Int→(Int→Prop)→Prop
 | [],_,n,K=>K n
 | _::r,0,n,K=>cntW es r (es-1) (n+1) K
 | _::r,k+1,n,K=>cntW es r k n K
theorem Dq {es:Nat} (he:0<es):∀(l:List SV) (k m:Nat) (n:Int) (K:Int→Prop),l.length=m*es+k→k<es→cntW es l k n K=K (n+m)
 | [],k,m,n,K,h,hk=>by
  have:m=0:=by
   rcases Nat.eq_zero_or_pos m with h1 | h1
   ·exact h1
   ·have:=Nat.mul_le_mul h1 (Nat.le_refl es);simp at h this;omega
  subst this;simp[cntW]
 | _::r,0,m,n,K,h,hk=>by
  obtain ⟨j,rfl⟩:∃j,m=j+1:=by
   rcases Nat.eq_zero_or_pos m with h1 | h1
   ·subst h1;simp at h
   ·exact ⟨m-1,by omega⟩
  simp only[cntW]
  rw[Dq he r (es-1) j (n+1) K (by rw[Nat.add_mul] at h;simp at h;omega) (by omega)]
  congr 1;omega
 | _::r,k+1,m,n,K,h,hk=>by
  simp only[cntW]
  exact Dq he r k m n K (by simp at h;omega) (by omega)
def Dr (P:Program) (t:TypeId) (H:List HO) (x i:SV) (K:SV→Prop):Prop:=
 match bK P t,i with
 | some e,.val (.int _ n)=>match cP P e with
  | some sz=>match x with
   | .seq ty xs=>bif Nat.beq sz ty.size then Need (0≤n∧n<xs.length) (Ix n fun i=>K (.elem ty xs i 0)) else False
   | .lit es l=>bif Nat.beq sz es then cntK l 0 fun m=>Need (0≤n∧n*(es:Int)<m) (K (.lelem l (n.toNat*es))) else False
   | .sft none=>match hget H 0 with
    | .yst (some _) m _=>bif Nat.beq sz 1 then Need (0≤n∧n<(m:Int)) (Ix n fun i=>K (.sft (some i))) else False
    | _=>False
   | .ref nm ver=>match hget H nm with
    | .vec v ty xs _=>bif Nat.beq v ver&&Nat.beq sz ty.size then Need (0≤n∧n<xs.length) (Ix n fun i=>K (.vptr nm ver i sz 0)) else False
    | .fro v ty xs=>bif Nat.beq v ver&&Nat.beq sz ty.size then Need (0≤n∧n<xs.length) (Ix n fun i=>K (.elem ty xs i 0)) else False
    | _=>False
   | .part nm ver a b z=>match hget H nm with
    | .vec v ty xs _=>bif Nat.beq v ver&&(Nat.beq sz ty.size&&Nat.beq z sz) then Need (0≤n∧n<((b-a:Nat):Int)) (Ix n fun i=>K (.vptr nm v (a+i) sz 0)) else False
    | _=>False
   | _=>False
  | none=>False
 | _,_=>False
def aBr (P:Program) (t:TypeId):Option (Nat × TypeId):=
 match P.underlying t with
 | some (.array n e)=>some (n,e)
 | _=>none
def Lb (P:Program) (t:TypeId) (H:List HO) (x i:SV) (K:SV→Prop):Prop:=
 match aBr P t,x,i with
 | some (n,e),.ptr nm off,.val (.int _ j)=>match cP P e with
  | some sz=>bif live H (.ptr nm off) then Need (0≤j∧j<n) (Ix j fun j=>K (.ptr nm (off+j*sz))) else False
  | none=>False
 | _,_,_=>False
def Ns (H:List HO) (x:SV) (K:SV→Prop):Prop:=
 match x with
 | .seq _ xs=>Giv (xs.length≤140737488355328) (K (.val (.int .i64 xs.length)))
 | .str s=>Giv (s.length≤140737488355328) (K (.val (.int .i64 s.length)))
 | .lit es l=>bif Nat.ble l.length 1000 then (bif Nat.beq es 1 then cntK l 0 fun m=>K (.val (.int .i64 m)) else bif Nat.blt 0 es then cntW es l 0 0 fun m=>K (.val (.int .i64 m)) else False) else False
 | .val (.slice none 0 0)=>K (.val (.int .i64 0))
 | .sft none=>match hget H 0 with
  | .yst (some _) m _=>Giv (m≤140737488355328) (K (.val (.int .i64 m)))
  | _=>False
 | .part nm ver i j _=>match hget H nm with
  | .vec v _ xs _=>bif Nat.beq v ver then K (.val (.int .i64 ((j-i:Nat):Int))) else False
  | _=>False
 | .ref nm ver=>match hget H nm with
  | .vec v _ xs _=>bif Nat.beq v ver then Giv (xs.length≤140737488355328) (K (.val (.int .i64 xs.length))) else False
  | .fro v _ xs=>bif Nat.beq v ver then Giv (xs.length≤140737488355328) (K (.val (.int .i64 xs.length))) else False
  | _=>False
 | _=>False
def Dt (P:Program) (fs:List Field):Option (List (Nat × Nat)):=
 match fs with
 | []=>some []
 | f::r=>match cP P f.type,Dt P r with
  | some sz,some l=>some ((f.offset,sz)::l)
  | _,_=>none
def jS (pl:List (Nat × Nat)) (cells:List SV):List (Nat × SV)→Option (List SV)
 | []=>some cells
 | (i,v)::r=>match pl[i]? with
  | some (off,sz)=>bif Nat.beq (aP v).length sz&&Nat.ble (off+sz) cells.length then jS pl (setCells cells off (aP v)) r else none
  | none=>none
def Gq (pl:List (Nat × Nat)) (o:Nat):List (Nat × SV)→Option (List SV)
 | []=>some []
 | (i,v)::r=>match pl[i]? with
  | some (off,sz)=>bif Nat.beq off o&&Nat.beq (aP v).length sz then (match Gq pl (o+sz) r with
   | some l=>some (aP v++l)
   | none=>none) else none
  | none=>none
def Td (pl:List (Nat × Nat)) (cells:List SV) (parts:List (Nat × SV)):Option (List SV):=
 match Gq pl 0 parts with
 | some l=>bif Nat.beq l.length cells.length then some l else jS pl cells parts
 | none=>jS pl cells parts
def Du (P:Program) (t:TypeId) (parts:List (Nat × SV)) (K:SV→Prop):Prop:=
 match P.underlying t,gL P t with
 | some (.struct fs),some z=>match Dt P fs.toList with
  | some pl=>match Td pl z parts with
   | some l=>hnfL l fun l'=>K (.agg l')
   | none=>False
  | none=>False
 | _,_=>False
def pA (sz:Nat):Nat→Nat→List (Nat × Nat)
 | 0,_=>[]
 | n+1,off=>(off,sz)::pA sz n (off+sz)
def Lc (P:Program) (t:TypeId) (parts:List (Nat × SV)) (K:SV→Prop):Prop:=
 match P.underlying t,gL P t with
 | some (.array n e),some z=>match cP P e with
  | some sz=>match jS (pA sz n 0) z parts with
   | some l=>hnfL l fun l'=>K (.agg l')
   | none=>False
  | none=>False
 | _,_=>False
def Nt (P:Program) (t:TypeId):Bool:=match P.underlying t with
 | some (.array _ _)=>true
 | _=>false
def wY (t:Ty):List (Nat × SV)→Nat→Option (List t.T)
 | [],_=>some []
 | (i,v)::r,n=>bif Nat.beq i n&&Nat.beq (aP v).length t.size&&iF t (aP v) then (match dec t (aP v),wY t r (n+1) with
  | some x,some l=>some (x::l)
  | _,_=>none) else none
def wZ:List (Nat × SV)→Nat→Option (List SV)
 | [],_=>some []
 | (i,v)::r,n=>bif Nat.beq i n&&Nat.beq (aP v).length 1 then (match wZ r (n+1) with
  | some l=>some (v::l)
  | none=>none) else none
def xA {β:Sort _} (n:Nat) (k:Nat→β):β:=match n with
 | 0=>k 0
 | m+1=>k (m+1)
theorem tO {β:Sort _} (n:Nat) (k:Nat→β):xA n k=k n:=by cases n<;>rfl
def xB (sz:Nat):List (Nat × SV)→Nat→Option (List SV)
 | [],_=>some []
 | (i,v)::r,n=>match v with
  | .agg l=>bif Nat.beq i n&&Nat.beq l.length sz then (match xB sz r (n+1) with
   | some m=>some (l++m)
   | none=>none) else none
  | _=>none
def Te (P:Program) (t:TypeId):Bool:=
 match P.info? t with
 | some i=>i.zero.isSome
 | none=>false
def Ld:List SV→Bool
 | []=>true
 | .agg _:: _=>false
 | _::r=>Ld r
structure Own (A B:Prop):Prop where
 or:A∨B
theorem Own.l {A B:Prop} (h:A):Own A B:=⟨.inl h⟩
theorem Own.r {A B:Prop} (h:B):Own A B:=⟨.inr h⟩
def jB (P:Program) (t:TypeId) (len:Nat) (parts:List (Nat × SV)) (H:List HO) (K:SV→List HO→Prop):Prop:=
 bif Nat.beq parts.length len&&Nat.ble len 1000 then (match bK P t with
  | some e=>match cP P e with
   | some sz=>bif Nat.blt 0 sz&&Nat.ble sz 1000&&Te P e then (match tyOf P 24 e with
    | some ty=>bif Nat.beq sz ty.size then (match parts with
     | []=>aQ (H++ [.vec 1 ty [] e]) fun H'=>K (.ref H.length 1) H'
     | _=>match wY ty parts 0 with
      | some l=>aQ l fun l'=>Own (K (.seq ty l') H) (aQ (H++ [.vec 1 ty l' e]) fun H'=>K (.ref H.length 1) H')
      | none=>False) else False
    | none=>bif Nat.blt 0 len then (bif Nat.beq sz 1 then (match wZ parts 0 with
     | some l=>bif Ld l then hnfL l fun l'=>K (.lit 1 l') H else False
     | none=>False) else (match xB sz parts 0 with
     | some l=>hnfL l fun l'=>xA sz fun z=>K (.lit z l') H
     | none=>False)) else False) else False
   | none=>False
  | none=>False) else False
def bN (l:List Int):List UInt8:=l.map fun n=>UInt8.ofNat n.toNat
def Lf (P:Program) (H:List HO) (s d:TypeId) (x:SV) (K:SV→Prop):Prop:=
 match P.underlying s,P.underlying d,x with
 | some (.int _),some (.int k),.val (.int _ n)=>chk k n (K (.val (.int k n)))
 | some .string,some .string,.str s=>K (.str s)
 | some (.slice e),some .string,x=>(match P.underlying e,view true H x with
  | some (.int .u8),.seq (.int .u8) xs=>K (.str (bN xs))
  | _,_=>False)
 | _,_,_=>False
def xC (H:List HO) (t:Ty) (s:SV):Option (List t.T):=
 match view true H s with
 | .seq t' ys=>if h:t'=t then some (h ▸ ys) else none
 | .val (.slice none 0 0)=>some []
 | _=>none
def rO (P:Program) (t:TypeId) (H:List HO) (s x:SV) (K:SV→List HO→Prop):Prop:=
 match bK P t with
 | some e=>match tyOf P 24 e,P.info? e with
  | some ty,some i=>bif Nat.beq i.size ty.size&&Nat.blt 0 i.bytes&&(match i.zero with | some z=>Nat.beq z.cells.size ty.size | none=>false) then (match xC H ty x with
   | some ys=>(match s with
    | .val (.slice none 0 0)=>Need (ys.length*i.bytes≤140737488355328) (aQ (H++ [.vec 1 ty ys e]) fun H'=>K (.ref H.length 1) H')
    | .ref nm ver=>match hget H nm with
     | .vec v ty' xs e'=>bif Nat.beq v ver&&Nat.beq e e' then (if h:ty'=ty then
       Need ((List.length (α:=ty'.T) xs+ys.length)*i.bytes≤140737488355328) (aQ (hset H nm (.vec (v+1) ty (List.append (α:=ty.T) (h ▸ xs) ys) e)) fun H'=>K (.ref nm (v+1)) H') else False) else False
     | _=>False
    | _=>False)
   | none=>False) else False
  | _,_=>False
 | none=>False
def nT (P:Program) (t u:TypeId) (H:List HO) (s x:SV) (K:SV→List HO→Prop):Prop:=
 match P.underlying u,s,x with
 | some (.int _),.val (.slice none 0 0),.val (.int _ n)=>match bK P t with
  | some e=>match tyOf P 24 e,P.info? e with
   | some ty,some i=>bif Nat.beq i.size ty.size&&Nat.blt 0 i.bytes&&Nat.ble i.bytes 1024&&(match i.zero with | some z=>Nat.beq z.cells.size ty.size | none=>false) then
     Need (1≤n∧n≤137438953472) (aQ (H++ [.vec 1 ty [] e]) fun H'=>K (.wide H.length 1) H') else False
   | _,_=>False
  | none=>False
 | _,_,_=>False
def Dv (bytes n:Nat) (C:Prop):Prop:=bif Nat.ble bytes 8 then Need (n≤17592186044416) C else bif Nat.ble bytes 1024 then Need (n≤137438953472) C else False
theorem xD {bytes n:Nat} {C:Prop} (h:Dv bytes n C):Need (n*bytes≤140737488355328) C:=by
 unfold Dv at h
 cases hb:Nat.ble bytes 8 with
 | true=>
  rw[hb] at h
  have h1:=Nat.le_of_ble_eq_true hb
  have h2:=h.ok
  exact ⟨Nat.le_trans (Nat.mul_le_mul h2 h1) (by decide),h.go⟩
 | false=>
  rw[hb] at h
  simp only[cond_false] at h
  cases hc:Nat.ble bytes 1024 with
  | true=>
   rw[hc] at h
   have h1:=Nat.le_of_ble_eq_true hc
   have h2:=h.ok
   exact ⟨Nat.le_trans (Nat.mul_le_mul h2 h1) (by decide),h.go⟩
  | false=>rw[hc] at h;exact h.elim
def Gr (H:List HO) (t:Ty) (s:SV) (K:List t.T→Prop):Prop:=
 match view true H s with
 | .seq t' ys=>if h:t'=t then Bh h ys K else False
 | .val (.slice none 0 0)=>K []
 | _=>False
def Dw (P:Program) (t:TypeId) (H:List HO) (s x:SV) (K:SV→List HO→Prop):Prop:=
 match bK P t with
 | some e=>match tyOf P 24 e,P.info? e with
  | some ty,some i=>bif Nat.beq i.size ty.size&&Nat.blt 0 i.bytes&&(match i.zero with | some z=>Nat.beq z.cells.size ty.size | none=>false) then Gr H ty x fun ys=>(match s with
    | .val (.slice none 0 0)=>Dv i.bytes ys.length (aQ (H++ [.vec 1 ty ys e]) fun H'=>K (.ref H.length 1) H')
    | .ref nm ver=>match hget H nm with
     | .vec v ty' xs e'=>bif Nat.beq v ver&&Nat.beq e e' then (if h:ty'=ty then Bh h xs fun xs=>
       Dv i.bytes (xs.length+ys.length) (aQ (hset H nm (.vec (v+1) ty (xs++ys) e)) fun H'=>K (.ref nm (v+1)) H') else False) else False
     | _=>False
    | _=>False) else False
  | _,_=>False
 | none=>False
def aM (s:List UInt8):List Int:=s.map fun b=>(b.toNat:Int)
def Dx (P:Program) (t u:TypeId) (H:List HO) (s x:SV) (K:SV→List HO→Prop):Prop:=
 match P.underlying u,s,x with
 | some .string,.ref nm k,.str bs=>match bK P t with
  | some e=>match P.info? e,hget H nm with
   | some i,.vec j (.int .u8) xs e'=>bif Nat.beq j k&&Nat.beq e e'&&Nat.beq i.size 1&&Nat.beq i.bytes 1&&(match i.zero with | some (.int .u8 n)=>decide (n=0) | _=>false) then
     Need (List.length (α:=Int) xs+bs.length≤140737488355328) (aQ (hset H nm (.vec (j+1) (.int .u8) (List.append (α:=Int) xs (aM bs)) e)) fun H'=>K (.ref nm (j+1)) H') else False
   | _,_=>False
  | none=>False
 | _,_,_=>False
def aBs:SV→Bool
 | .str _=>true
 | _=>false
def layL {α:Type} (xs:List α) (i:Nat) (zs:List α):List α:=xs.take i++(zs++xs.drop (i+zs.length))
def srcK (H:List HO) (t:Ty) (s:SV) (K:List t.T→Prop):Prop:=
 match s with
 | .part nm k i j z=>(match hget H nm with
  | .vec v t' xs _=>bif Nat.beq v k&&Nat.beq z t.size then (if h:t'=t then Bh h xs fun xs=>K ((xs.take j).drop i) else False) else False
  | _=>False)
 | s=>Gr H t s K
def Dy (P:Program) (H:List HO) (e:TypeId) (nm k i z:Nat) (x:SV) (K:SV→List HO→Prop):Prop:=
 match P.info? e,hget H nm with
 | some inf,.vec v ty xs e'=>bif ((Nat.beq v k&&Nat.beq e e')&&Nat.beq z ty.size)&&(Nat.beq inf.size ty.size&&Nat.blt 0 inf.bytes&&(match inf.zero with | some z=>Nat.beq z.cells.size ty.size | none=>false)) then srcK H ty x fun ys=>
    Need ((i+ys.length)*inf.bytes≤140737488355328) (aQ (hset H nm (.vec (v+1) ty (xs.take i++ys) e')) fun H'=>K (.ref nm (v+1)) H') else False
 | _,_=>False
def Dz (P:Program) (t:TypeId) (H:List HO) (s x:SV) (K:SV→List HO→Prop):Prop:=
 match bK P t,s with
 | some e,.part nm k 0 i z=>match P.info? e,hget H nm with
  | some inf,.vec v ty xs e'=>bif (Nat.beq v k&&Nat.beq e e')&&(Nat.beq inf.size ty.size&&Nat.beq z ty.size) then srcK H ty x fun ys=>
    Need (i+ys.length≤xs.length) (aQ (hset H nm (.vec v ty (layL xs i ys) e')) fun H'=>K (.part nm v 0 (i+ys.length) z) H') else False
  | _,_=>False
 | some e,.lim nm k i z=>Dy P H e nm k i z x K
 | _,_=>False
def Ea:SV→Bool
 | .part _ _ _ _ _=>true
 | .lim _ _ _ _=>true
 | _=>false
def Eb (P:Program) (t:TypeId) (H:List HO) (x:SV) (K:List HO→Prop):Prop:=
 match bK P t,x with
 | some e,.part nm k a b z=>match P.info? e,gL P e,hget H nm with
  | some inf,some zz,.vec v ty xs e'=>bif (Nat.beq v k&&Nat.beq e e')&&(Nat.beq inf.size ty.size&&(Nat.beq z ty.size&&(iF ty zz&&Nat.beq zz.length ty.size))) then (match dec ty zz with
    | some x0=>aQ (hset H nm (.vec v ty (layL xs a (List.replicate (b-a) x0)) e')) K
    | none=>False) else False
  | _,_,_=>False
 | _,_=>False
def Lg (H:List HO) (s:SV) (K:SV→List HO→Prop):Prop:=
 match s with
 | .part nm k 0 j z=>Own (K (.part nm k 0 j z) H) (match hget H nm with
  | .vec v ty xs e=>bif Nat.beq v k&&Nat.beq z ty.size then aQ (hset H nm (.vec (v+1) ty (xs.take j) e)) fun H'=>K (.ref nm (v+1)) H' else False
  | _=>False)
 | s=>K s H
theorem Bi {H:List HO} {t:Ty} {s:SV} {K:List t.T→Prop} (h:Gr H t s K):∃ys,xC H t s=some ys∧K ys:=by
 unfold Gr at h
 unfold xC
 split at h
 ·split at h
  ·rename_i e
   rw[nS] at h
   exact ⟨_,by simp[*],h⟩
  ·exact h.elim
 ·exact ⟨[],by simp[*],h⟩
 ·exact h.elim
theorem Lh {P:Program} {t:TypeId} {H:List HO} {s x:SV} {K:SV→List HO→Prop} (h:Dw P t H s x K):rO P t H s x K:=by
 unfold Dw at h
 unfold rO
 cases he:bK P t with
 | none=>rw[he] at h;exact h.elim
 | some e=>
  rw[he] at h
  simp only at h ⊢
  cases h1:tyOf P 24 e with
  | none=>rw[h1] at h;exact h.elim
  | some ty=>
  cases h2:P.info? e with
  | none=>rw[h1,h2] at h;exact h.elim
  | some i=>
  rw[h1,h2] at h
  simp only at h ⊢
  generalize (Nat.beq i.size ty.size&&Nat.blt 0 i.bytes&&(match i.zero with | some z=>Nat.beq z.cells.size ty.size | none=>false))=c at h ⊢
  cases c with
  | false=>exact h.elim
  | true=>
  simp only[cond_true] at h ⊢
  obtain ⟨ys,h3,h4⟩:=Bi h
  rw[h3]
  simp only
  cases s with
  | val v=>
   cases v with
   | slice a n c=>
    cases a<;>cases n<;>cases c<;>first | exact xD h4 | exact h4.elim
   | _=>exact h4.elim
  | ref nm ver=>
   simp only at h4 ⊢
   cases ho:hget H nm with
   | vec v ty' xs e'=>
    rw[ho] at h4
    simp only at h4 ⊢
    cases hb2:(Nat.beq v ver&&Nat.beq e e') with
    | false=>rw[hb2] at h4;exact h4.elim
    | true=>
     rw[hb2] at h4
     simp only[cond_true] at h4 ⊢
     by_cases e1:ty'=ty
     ·subst e1
      simp only[dite_true] at h4 ⊢
      rw[nS] at h4
      exact xD h4
     ·rw[dif_neg e1] at h4
      exact h4.elim
   | _=>rw[ho] at h4;exact h4.elim
  | _=>exact h4.elim
def Li (P:Program) (t:TypeId) (H:List HO) (n c:SV) (K:SV→List HO→Prop):Prop:=
 match bK P t,n,c with
 | some e,.val (.int _ n),.val (.int _ c)=>match tyOf P 24 e,P.info? e,gL P e with
  | some ty,some i,some z=>bif Nat.beq i.size ty.size&&iF ty z&&Nat.beq z.length ty.size then (match dec ty z with
    | some x0=>Need (0≤n∧n≤c∧c≤140737488355328∧c*(i.bytes:Int)≤140737488355328) (aQ (H++ [.vec 1 ty (List.replicate n.toNat x0) e]) fun H'=>K (.ref H.length 1) H')
    | none=>False) else False
  | _,_,_=>False
 | _,_,_=>False
def plain:SV→Bool
 | .val _=>true
 | .bl _ _=>true
 | .str _=>true
 | .ifc=>true
 | .num _=>true
 | .agg l=>plainL l
 | .tup l=>plainL l
 | _=>false
where plainL:List SV→Bool
 | []=>true
 | x::r=>plain x&&plainL r
def Tf (pos:Nat) (same:Bool) (cl:List SV→HO→(SV→HO→Prop)→Prop) (args:List SV) (H:List HO) (K:SV→List HO→Prop):Prop:=
 match args.getD pos .any with
 | .ref nm ver=>match hget H nm with
  | .vec v t xs e=>bif Nat.beq v ver&&t.flat then
    hnfL ((args.set pos .any).map (wU true (hset H nm .dead))) fun as=>bif bare.bareL as then cl as (.vec 1 t xs e) fun r o=>hnf r fun r=>(match o with
     | .vec _ t' ys e'=>bif Nat.beq e e' then (if h:t'=t then Bh h ys fun ys=>aQ (hset H nm (.vec (bif same then v else v+1) t ys e)) fun H'=>(match r with
       | .ref 0 1=>K (.ref nm (bif same then v else v+1)) H'
       | r=>bif plain r then K r H' else False) else False) else False
     | _=>False) else False
   else False
  | _=>False
 | _=>False
def Nv (n:Nat):SV→SV
 | .ref 0 1=>.ref n 1
 | s=>s
def renm (n:Nat):SV→SV
 | .tup l=>.tup (l.map (Nv n))
 | s=>Nv n s
def okR1:SV→Bool
 | .ref 0 1=>true
 | s=>plain s
def okR:SV→Bool
 | .tup l=>l.all okR1
 | s=>okR1 s
def Tg (cl:List SV→(SV→HO→Prop)→Prop) (args:List SV) (H:List HO) (K:SV→List HO→Prop):Prop:=
 hnfL (args.map (wU true H)) fun as=>bif bare.bareL as then cl as fun r o=>hnf r fun r=>(match o with
  | .vec _ t ys e=>bif t.flat&&okR r then aQ (H++ [.vec 1 t ys e]) fun H'=>hnf (renm H.length r) fun r'=>K r' H' else False
  | _=>False) else False
def Ec (fresh:Bool) (cl:List SV→(SV→Prop)→Prop) (args:List SV) (H:List HO) (K:SV→List HO→Prop):Prop:=
 bif fresh then hnfL (args.map (wU true H)) fun as=>bif bare.bareL as then cl as fun r=>hnf r fun r'=>bif bare r' then K r' H else False else False
 else aQ (cL H args) fun H'=>hnfL (args.map (wU false H')) fun as=>bif bare.bareL as then cl as fun r=>hnf r fun r'=>bif bare r' then K r' H' else False else False
def aBt:SV→Bool
 | .ref _ _=>true
 | _=>false
def Lj (Γ:List Con) (f:FuncId) (args:List SV) (H:List HO) (K:SV→List HO→Prop):Prop:=
 match rM Γ f with
 | some c=>match c.hp,c.lin,c.own with
  | some cl,_,_=>cl args H fun r H'=>hnf r fun r=>aQ H' fun H'=>K r H'
  | none,some (pos,same,cl),_=>bif aBt (args.getD pos .any) then Tf pos same cl args H K else Ec c.fresh c.cl args H K
  | none,none,some cl=>Tg cl args H K
  | none,none,none=>Ec c.fresh c.cl args H K
 | none=>False
def kZ (t:Ty) (xs:List t.T) (lo hi:Option SV) (K:SV→Prop):Prop:=
 match lo,hi with
 | none,none=>K (.seq t xs)
 | some (.val (.int _ i)),none=>Need (0≤i∧i≤xs.length) (Ix i fun i=>K (.seq t (xs.drop i)))
 | none,some (.val (.int _ j))=>Need (0≤j∧j≤xs.length) (Ix j fun j=>K (.seq t (xs.take j)))
 | some (.val (.int _ i)),some (.val (.int _ j))=>Need (0≤i∧i≤j∧j≤xs.length) (Ix i fun i=>Ix j fun j=>K (.seq t ((xs.take j).drop i)))
 | _,_=>False
def aH (s:List UInt8) (i:Nat):Int:=((s.getD i 0).toNat:Int)
def xE (s:List UInt8) (lo hi:Option SV) (K:SV→Prop):Prop:=
 match lo,hi with
 | none,none=>K (.str s)
 | some (.val (.int _ i)),none=>Need (0≤i∧i≤s.length) (Ix i fun i=>K (.str (s.drop i)))
 | none,some (.val (.int _ j))=>Need (0≤j∧j≤s.length) (Ix j fun j=>K (.str (s.take j)))
 | some (.val (.int _ i)),some (.val (.int _ j))=>Need (0≤i∧i≤j∧j≤s.length) (Ix i fun i=>Ix j fun j=>K (.str ((s.take j).drop i)))
 | _,_=>False
def Nw (n:Nat) (lo hi:Option SV) (K:Nat→Nat→Prop):Prop:=
 match lo,hi with
 | none,none=>K 0 n
 | some (.val (.int _ i)),none=>Need (0≤i∧i≤n) (Ix i fun i=>K i n)
 | none,some (.val (.int _ j))=>Need (0≤j∧j≤n) (Ix j fun j=>K 0 j)
 | some (.val (.int _ i)),some (.val (.int _ j))=>Need (0≤i∧i≤j∧j≤n) (Ix i fun i=>Ix j fun j=>K i j)
 | _,_=>False
def Nx (j n:Nat) (lo hi:Option SV) (K:Nat→Nat→Prop):Prop:=
 match lo,hi with
 | some (.val (.int _ a)),some (.val (.int _ b))=>Need (0≤a∧a≤b∧b≤n) (Ix a fun a=>Ix b fun b=>K a b)
 | _,_=>False
def Th (P:Program) (t:TypeId) (H:List HO) (x y:SV) (K:SV→List HO→Prop):Prop:=False
def xF (P:Program) (t:TypeId) (H:List HO) (s:SV) (lo hi mx:Option SV) (K:SV→List HO→Prop):Prop:=
 match bK P t,s,lo,hi,mx with
 | some e,.ref nm ver,some (.val (.int _ a)),some (.val (.int _ b)),some (.val (.int _ c))=>match cP P e,hget H nm with
  | some _,.vec v _ xs _=>bif Nat.beq v ver then Need (0≤a∧a≤b∧b≤c∧c≤xs.length) (K .any H) else False
  | _,_=>False
 | some e,.ref nm ver,none,some (.val (.int _ a)),some (.val (.int _ b))=>match cP P e,hget H nm with
  | some sz,.vec v _ xs _=>bif Nat.beq v ver then Need (0≤a∧a=b∧a≤xs.length) (Ix a fun i=>K (.lim nm v i sz) H) else False
  | _,_=>False
 | _,_,_,_,_=>False
def Ed (P:Program) (t:TypeId) (H:List HO) (s:SV) (lo hi:Option SV) (K:SV→List HO→Prop):Prop:=
 match P.underlying t with
 | some (.slice e)=>match cP P e with
  | some sz=>match s with
   | .seq ty xs=>bif Nat.beq sz ty.size then kZ ty xs lo hi fun v=>K v H else False
   | .val (.slice none 0 0)=>match lo,hi with
    | none,some (.val (.int _ j))=>Need (0≤j∧j≤0) (K (.val (.slice none 0 0)) H)
    | _,_=>match tyOf P 24 e with
     | some ty=>bif Nat.beq sz ty.size then kZ ty [] lo hi fun v=>K v H else False
     | none=>False
   | .part nm ver 0 j z=>(match hget H nm with
    | .vec v ty xs _=>bif Nat.beq v ver&&(Nat.beq sz ty.size&&Nat.beq z ty.size) then Nx j xs.length lo hi fun a b=>K (.part nm v a b z) H else False
    | _=>False)
   | .wide nm ver=>match lo,hi with
    | none,some (.val (.int _ j))=>(match hget H nm with
     | .vec v ty [] _=>bif Nat.beq v ver&&Nat.beq sz ty.size then Need (0≤j∧j≤0) (K (.ref nm ver) H) else False
     | _=>False)
    | _,_=>False
   | .ref nm ver=>Own (Own (aQ (frz1 H (.ref nm ver)) fun H'=>match view false H' (.ref nm ver) with
    | .seq ty xs=>bif Nat.beq sz ty.size then kZ ty xs lo hi fun v=>K v H' else False
    | _=>False) (match lo,hi with
     | none,some (.val (.int _ j))=>(match hget H nm with
      | .vec v ty xs e'=>bif Nat.beq v ver&&Nat.beq sz ty.size then Need (0≤j∧j≤xs.length) (Ix j fun j=>aQ (hset H nm (.vec (v+1) ty (xs.take j) e')) fun H'=>K (.ref nm (v+1)) H') else False
      | _=>False)
     | _,_=>False)) (match hget H nm with
      | .vec v ty xs _=>bif Nat.beq v ver&&Nat.beq sz ty.size then Nw xs.length lo hi fun i j=>K (.part nm v i j sz) H else False
      | _=>False)
   | _=>False
  | none=>False
 | some .string=>match s with
  | .str s=>xE s lo hi fun v=>K v H
  | _=>False
 | _=>False
def Ny (P:Program) (t:TypeId) (x:Operand):Option (Ty × TypeId):=
 match x with
 | .const (.slice none 0 0)=>match bK P t with
  | some e=>match tyOf P 24 e with
   | some ty=>some (ty,e)
   | none=>none
  | none=>none
 | _=>none
def rowTy (P:Program) (e:TypeId):Option (Ty × TypeId):=
 match bK P e with
 | some ei=>match tyOf P 24 ei with
  | some t=>bif t.flat then some (t,ei) else none
  | none=>none
 | none=>none
def Nz (P:Program) (t:TypeId) (n c:SV) (K:Int→Ty→TypeId→TypeId→Prop):Prop:=False
def Ee (P:Program) (t:TypeId):Bool:=match bK P t with
 | some e=>match rowTy P e with
  | some _=>true
  | none=>false
 | none=>false
def isVV (H:List HO) (s:SV):Bool:=match s with
 | .ref nm _=>(match hget H nm with
  | .vv _ _ _ _ _ _ _=>true
  | _=>false)
 | .vptr nm _ _ _ _=>(match hget H nm with
  | .vv _ _ _ _ _ _ _=>true
  | _=>false)
 | .sub _ _ _ _=>true
 | _=>false
def Ti (P:Program) (t:TypeId) (H:List HO) (x i:SV) (K:SV→Prop):Prop:=False
def aBu (P:Program) (t:TypeId) (H:List HO) (x:SV) (K:SV→Prop):Prop:=False
def Oa (P:Program) (t:TypeId) (H:List HO) (x y:SV) (K:SV→List HO→Prop):Prop:=False
def Tj (P:Program) (t:TypeId) (H:List HO) (x y:SV) (K:List HO→Prop):Prop:=False
def lenV (H:List HO) (x:SV) (K:SV→Prop):Prop:=False
structure NextVC (fin:Prop) (more:Prop):Prop where
 fin:fin
 more:more
structure Has {α:Type} (p:α→Prop) (C:α→Prop):Prop where
 ex:∃e,p e∧C e
theorem Alt.h {α:Type} {p C:α→Prop} {D:Prop} {r:α} (k:C r) (h:p r:=by first | with_reducible assumption | assumption):Alt (Has p C) D:=.l ⟨⟨r,h,k⟩⟩
def Ob (P:Program) (t:TypeId):Option SV:=
 match P.info? t with
 | some i=>match i.zero with
  | some (.agg _)=>none
  | some v=>some (cst v)
  | none=>none
 | none=>none
def intF (P:Program) (f:Field) (off:Nat) (k:IntKind):Bool:=Nat.beq f.offset off&&(match P.underlying f.type with
 | some (.int q)=>decide (q=k)
 | _=>false)
def tP (P:Program) (t:TypeId):Option TypeId:=
 match P.underlying t with
 | some (.map kt et)=>match P.underlying kt,P.underlying et with
  | some (.struct fs),some (.func _ _ _)=>(match fs.toList,Ob P et with
   | [f,g],some _=>bif intF P f 0 .i64&&intF P g 1 .i64 then some kt else none
   | _,_=>none)
  | _,_=>none
 | _=>none
structure KeyOK (P:Program) (kt:TypeId):Prop where
 key:P.keyTypeAt 2 kt=true
 tile:P.tiled 2 kt=true
 typ:P.keyType kt=true
 cells:P.cellsOf kt=2
 types:0<P.types.size
def rP:List (Int × Int)→List SV→Int→Int→Option SV
 | k::r,v::r',a,b=>if k.1=a∧k.2=b then some v else rP r r' a b
 | _,_,_,_=>none
def hasP:List (Int × Int)→Int→Int→Bool
 | [],_,_=>false
 | k::r,a,b=>(decide (k.1=a)&&decide (k.2=b)) || hasP r a b
def setP:List (Int × Int)→List SV→Int→Int→SV→List SV
 | k::r,v::r',a,b,x=>bif decide (k.1=a)&&decide (k.2=b) then x::r' else v::setP r r' a b x
 | _,vs,_,_,_=>vs
def Bj (P:Program) (t:TypeId) (H:List HO) (K:SV→List HO→Prop):Prop:=False
def Gs (P:Program) (t:TypeId) (ok:Bool) (H:List HO) (x i:SV) (K:SV→Prop):Prop:=False
def uU (P:Program) (t:TypeId) (H:List HO) (x i y:SV) (K:List HO→Prop):Prop:=False
def qR (P:Program) (t:TypeId) (H:List HO) (x i:SV) (K:SV→List HO→Prop):Prop:=
 match x,i with
 | .mp nm,.agg [.val (.int .i64 a),.val (.int .i64 b)]=>(match tP P t,hget H nm with
  | some kt,.qm ks vs=>Need (KeyOK P kt) (bif hasP ks a b then False else Need (ks.length<140737488355328) <| xA ks.length fun n=>aQ (ks++ [(a,b)]) fun ks'=>aQ (vs++ [.any]) fun vs'=>aQ (hset H nm (.qm ks' vs')) fun H'=>K (.tup [.any,.val (.int .i64 (Int.ofNat n))]) H')
  | _,_=>False)
 | _,_=>False
def mB (H:List HO) (x s y:SV) (K:List HO→Prop):Prop:=
 match x,s with
 | .mp nm,.val (.int .i64 (Int.ofNat n))=>(match hget H nm with
  | .qm ks vs=>bif bare y&&Nat.blt n vs.length then aQ (vs.set n y) fun vs'=>aQ (hset H nm (.qm ks vs')) K else False
  | _=>False)
 | _,_=>False
def Gu (P:Program) (t:TypeId) (H:List HO) (x i:SV) (K:List HO→Prop):Prop:=False
def Oc (P:Program) (t:TypeId) (H:List HO) (x:SV) (K:SV→List HO→Prop):Prop:=False
def Tk (H:List HO) (x:SV) (K:SV→List HO→Prop):Prop:=False
def Od (H:List HO) (x:SV) (K:SV→Prop):Prop:=False
def Gv (H:List HO) (x:SV) (K:SV→Prop):Prop:=False
def xG (P:Program) (t:TypeId) (op:BinOp) (k k':IntKind) (a b c d:Int) (K:SV→Prop):Prop:=
 match P.underlying t with
 | some (.struct fs)=>match fs.toList with
  | [f,g]=>bif intF P f 0 k&&intF P g 1 k' then Need (f.name≠ "_" ∧g.name≠ "_" ∧P.stoodInHeld t=false) (match op with
   | .eql=>K (.bl (a=c∧b=d) inferInstance)
   | .neq=>K (.bl (¬(a=c∧b=d)) inferInstance)
   | _=>False) else False
  | _=>False
 | _=>False
def strs:List SV→(List (List UInt8)→Prop)→Prop
 | [],K=>K []
 | .str s::r,K=>strs r fun xs=>K (s::xs)
 | _,_=>False
def Lk (P:Program) (t:TypeId):Bool:=match P.underlying t with
 | some .string=>true
 | _=>false
def Bk (P:Program):List Field→Nat→Bool
 | [],_=>true
 | f::r,off=>Nat.beq f.offset off&&Lk P f.type&&Bk P r (off+1)
def Tl:List Field→Prop
 | []=>True
 | f::r=>f.name≠ "_" ∧Tl r
def Ef (P:Program) (t:TypeId) (op:BinOp) (l m:List SV) (K:SV→Prop):Prop:=
 match P.underlying t with
 | some (.struct fs)=>strs l fun xs=>strs m fun ys=>bif Bk P fs.toList 0&&Nat.beq fs.toList.length xs.length&&Nat.beq fs.toList.length ys.length then Need (Tl fs.toList∧P.stoodInHeld t=false) (match op with
   | .eql=>K (.bl (xs=ys) inferInstance)
   | .neq=>K (.bl (¬xs=ys) inferInstance)
   | _=>False) else False
 | _=>False
def Gw (P:Program) (t:TypeId):Option (Ty × TypeId):=
 match Ny P t (.const (.slice none 0 0)),gL P t with
 | some p,some [.val (.slice none 0 0)]=>some p
 | _,_=>none
def Eg:SV→Bool
 | .agg l=>l.any fun s=>match s with
  | .val (.slice none 0 0)=>true
  | _=>false
 | _=>false
def Tm:SV→Bool
 | .val (.slice none 0 0)=>true
 | _=>false
def nilRef (H:List HO) (nm off:Nat) (t:Ty) (e:TypeId) (K:List HO→Prop):Prop:=
 match hget H nm with
 | .cells l ce=>match l.getD off .any with
  | .val (.slice none 0 0)=>bif Nat.blt off l.length then aQ (l.set off (.ref H.length 1)) fun l'=>aQ (hset (H++ [.vec 1 t [] e]) nm (.cells l' ce)) K else False
  | _=>False
 | _=>False
structure NilRef (H:List HO) (nm:Nat) (K:List HO→Prop):Prop where
 ex:∃off t e,nilRef H nm off t e K
def Tn:SV→Nat
 | .ptr n _=>n
 | _=>0
def Ll:List (Nat × SV)→Bool
 | []=>false
 | (_,.ref _ _):: _=>true
 | _::r=>Ll r
def op1 (P:Program) (Γ:List Con) (o:Oper) (l:List (Nat × SV)) (H:List HO) (K:SV→List HO→Prop):Prop:=
 match o.op with
 | .move x=>hnf (ev l x) fun v=>K v H
 | .assign x=>match Ny P o.type x with
  | some (ty,e)=>aQ (H++ [.vec 1 ty [] e]) fun H'=>K (.ref H.length 1) H'
  | none=>hnf (ev l x) fun v=>bif Ea v then Lg H v K else K v H
 | .pick c a b=>Kw (ev l a) (ev l b) (ev l c) fun v=>K v H
 | .binOp op t x y _=>match ev l x,ev l y with
  | .val (.int k a),.val (.int k' b)=>bif Nq op then Dn op k a b fun v=>K v H else bif decide (k=k') then Ta op k a b fun v=>K v H else False
  | .seq _ xs,.val (.slice none 0 0)=>bif oY P t then rN op (xs= []) fun v=>K v H else False
  | .ref nm ver,.val (.slice none 0 0)=>(match hget H nm with
   | .vec v _ xs _=>bif oY P t&&Nat.beq v ver then rN op (xs= []) fun v=>K v H else False
   | .fro v _ xs=>bif oY P t&&Nat.beq v ver then rN op (xs= []) fun v=>K v H else False
   | _=>False)
  | .val (.slice none 0 0),.val (.slice none 0 0)=>bif oY P t then rN op True fun v=>K v H else False
  | .str s,.str s'=>Tc op s s' fun v=>K v H
  | .val (.bool a),.val (.bool b)=>bif tM P t then tN op (a=true) (b=true) fun v=>K v H else False
  | .bl p _,.val (.bool b)=>bif tM P t then tN op p (b=true) fun v=>K v H else False
  | .val (.bool a),.bl q _=>bif tM P t then tN op (a=true) q fun v=>K v H else False
  | .bl p _,.bl q _=>bif tM P t then tN op p q fun v=>K v H else False
  | .agg [.val (.int k a),.val (.int k' b)],.agg [.val (.int j c),.val (.int j' d)]=>bif decide (k=j)&&decide (k'=j') then xG P t op k k' a b c d fun v=>K v H else False
  | .agg (.str a::l'),.agg (.str b::m)=>Ef P t op (.str a::l') (.str b::m) fun v=>K v H
  | .ifc,.val .nilIface=>bif lZ P t&&wE y then rN op True fun v=>K v H else False
  | .val .nilIface,.val .nilIface=>bif lZ P t&&wE y then nilT op fun v=>K v H else False
  | .num k,.val (.int k' _)=>bif decide (k=k') then Tb op k fun v=>K v H else False
  | _,_=>False
 | .unOp .not _ x=>match ev l x with
  | .val (.bool true)=>K (.val (.bool false)) H
  | .val (.bool false)=>K (.val (.bool true)) H
  | .bl p _=>K (.bl (¬p) inferInstance) H
  | _=>False
 | .unOp .neg _ x=>match ev l x with
  | .val (.int k a)=>chk k (-a) (K (.val (.int k (-a))) H)
  | _=>False
 | .convert s d x=>Lf P H s d (ev l x) fun v=>K v H
 | .alloc t=>match Gw P t with
  | some (ty,e)=>aQ (H++ [.vec 1 ty [] e]) fun H'=>mA H' (.cells [.ref H.length 1] t) K
  | none=>match gL P t with
   | some z=>aQ z fun z'=>bif Eg (.agg z') then mA H (.cells z' t) fun s H'=>Own (K s H') (NilRef H' (Tn s) fun H''=>K s H'') else mA H (.cells z' t) K
   | none=>False
 | .nilCheck x=>match ev l x with
  | .ptr nm off=>bif live H (.ptr nm off) then K (.ptr nm off) H else False
  | .wcel n=>K (.wcel n) H
  | _=>False
 | .box t x=>bif wT H (ev l x) then aQ (aP (ev l x)) fun z=>bif Tm (ev l x) then mA H (.cells z t) fun s H'=>Own (K s H') (NilRef H' (Tn s) fun H''=>K s H'') else mA H (.cells z t) K else False
 | .build t ps=>bif kH H (ps.toList.map fun p=>(p.1,ev l p.2)) then (bif Nt P t then Lc P t (ps.toList.map fun p=>(p.1,ev l p.2)) fun v=>K v H else Du P t (ps.toList.map fun p=>(p.1,ev l p.2)) fun v=>K v H) else False
 | .buildSlice t n ps=>bif Ll (ps.toList.map fun p=>(p.1,ev l p.2)) then aQ (frz H (ps.toList.map fun p=>ev l p.2)) fun H'=>bif kH H' (ps.toList.map fun p=>(p.1,view false H' (ev l p.2))) then jB P t n (ps.toList.map fun p=>(p.1,view false H' (ev l p.2))) H' K else False
  else bif kH H (ps.toList.map fun p=>(p.1,ev l p.2)) then jB P t n (ps.toList.map fun p=>(p.1,ev l p.2)) H K else False
 | .load t x=>bif isVV H (ev l x) then aBu P t H (ev l x) fun v=>K v H else Kx P t H (ev l x) fun v=>K v H
 | .store t a x=>bif isVV H (ev l a) then Tj P t H (ev l a) (ev l x) fun H'=>K .any H' else bif Eg (ev l x) then wF P t H (ev l a) (ev l x) fun H'=>Own (K .any H') (NilRef H' (Tn (ev l a)) fun H''=>K .any H'') else wF P t H (ev l a) (ev l x) fun H'=>K .any H'
 | .fieldAddr t x f=>match ev l x,oZ P t f with
  | s,some (fo,sz,_)=>bif live H s&&Nat.blt 0 sz then (match s with
   | .ptr nm off=>K (.ptr nm (off+fo)) H
   | .elem ty xs i off=>K (.elem ty xs i (off+fo)) H
   | .vptr nm ver i z off=>K (.vptr nm ver i z (off+fo)) H
   | .lelem l off=>K (.lelem l (off+fo)) H
   | .wcel n=>bif Nat.beq fo 0 then K (.wcel n) H else False
   | _=>False) else False
  | _,_=>False
 | .field t x f=>match ev l x,oZ P t f with
  | .agg cs,some (fo,sz,ag)=>fD ag fo sz cs fun v=>K v H
  | _,_=>False
 | .indexAddr t x i=>bif isVV H (ev l x) then Ti P t H (ev l x) (ev l i) fun v=>K v H else bif Nt P t then Lb P t H (ev l x) (ev l i) fun v=>K v H else Dr P t H (ev l x) (ev l i) fun v=>K v H
 | .slice t x lo hi none=>Ed P t H (ev l x) (lo.map (ev l)) (hi.map (ev l)) K
 | .slice t x lo hi (some m)=>xF P t H (ev l x) (lo.map (ev l)) (hi.map (ev l)) (some (ev l m)) K
 | .index t x i=>match P.underlying t,ev l x,ev l i with
  | some (.array n e),.agg cs,.val (.int _ j)=>(match aggB P e,cP P e with
   | some ag,some sz=>Need (0≤j∧j<n) (Ix j fun j=>fD ag (j*sz) sz cs fun v=>K v H)
   | _,_=>False)
  | some .string,.str s,.val (.int _ n)=>Need (0≤n∧n<s.length) (Ix n fun i=>Giv (0≤aH s i∧aH s i≤255) (K (.val (.int .u8 (aH s i))) H))
  | _,_,_=>False
 | .extract x i=>match ev l x with
  | .tup vs=>bif Nat.blt i vs.length then hnf (vs.getD i .any) fun v=>K v H else False
  | _=>False
 | .makeFunc (.func f) a b=>hnfL (a.toList.map (ev l)) fun as=>hnfL (b.toList.map (ev l)) fun bs=>K (.clo f as bs) H
 | .makeSlice t n c=>bif Ee P t then Nz P t (ev l n) (ev l c) fun n ty e ei=>aQ (H++ [.vv 1 0 ty (List.replicate n.toNat []) none e ei]) fun H'=>K (.ref H.length 1) H' else Li P t H (ev l n) (ev l c) K
 | .call c=>match c.callee with
  | .builtin .len=>match c.args.toList with
   | [x]=>match c.argTypes[0]? with
    | some t=>match P.underlying t,ev l x with
     | some (.slice _),s=>(match s with
      | .str _=>False
      | s=>bif isVV H s then lenV H s fun v=>K v H else Ns H s fun v=>K v H)
     | some .string,.str s=>Ns H (.str s) fun v=>K v H
     | some (.map _ _),s=>Gv H s fun v=>K v H
     | _,_=>False
    | none=>False
   | _=>False
  | .builtin .cap=>match c.args.toList with
   | [x]=>match c.argTypes[0]? with
    | some t=>match P.underlying t,ev l x with
     | some (.slice _),.val (.slice none 0 0)=>K (.val (.int .i64 0)) H
     | _,_=>False
    | none=>False
   | _=>False
  | .builtin .append=>match c.args.toList,c.argTypes.toList with
   | [s,x],[t,u]=>bif Nat.beq t u then (bif isVV H (ev l s) then Oa P t H (ev l s) (ev l x) K else bif Ea (ev l s) then Dz P t H (ev l s) (ev l x) K else Dw P t H (ev l s) (ev l x) K) else bif aBs (ev l x) then Dx P t u H (ev l s) (ev l x) K else nT P t u H (ev l s) (ev l x) K
   | _,_=>False
  | .builtin .copy=>match c.args.toList,c.argTypes.toList with
   | [x,y],[t,_]=>Th P t H (ev l x) (ev l y) K
   | _,_=>False
  | .builtin .clear=>match c.args.toList,c.argTypes.toList with
   | [x],[t]=>Eb P t H (ev l x) fun H'=>K (.tup []) H'
   | _,_=>False
  | .builtin .delete=>match c.args.toList,c.argTypes[0]? with
   | [x,y],some t=>Gu P t H (ev l x) (ev l y) fun H'=>K (.tup []) H'
   | _,_=>False
  | .builtin .max=>match c.args.toList.map (ev l) with
   | .val (.int k a)::r=>wW k a r fun v=>K v H
   | _=>False
  | .builtin .min=>match c.args.toList.map (ev l) with
   | .val (.int k a)::r=>wX k a r fun v=>K v H
   | _=>False
  | .value f=>match ev l f with
   | .yld _=>match hget H 0 with
    | .yst (some k) n items=>hnfL (c.args.toList.map fun x=>yldV H (ev l x)) fun as=>Need (k<n) (Need (ent.entL as (items k))
      (Two (K (.val (.bool true)) (hset H 0 (.yst (some (k+1)) n items))) (K (.val (.bool false)) (hset H 0 (.yst none n items)))))
    | _=>False
   | .clo g first caps=>Lj Γ g (first++c.args.toList.map (ev l)++caps) H K
   | _=>False
  | _=>False
 | .makeMap t none=>Bj P t H K
 | .lookup t m x ok=>Gs P t ok H (ev l m) (ev l x) fun v=>K v H
 | .mapUpdate t m x y=>uU P t H (ev l m) (ev l x) (ev l y) fun H'=>K .any H'
 | .mapEntry t m x=>qR P t H (ev l m) (ev l x) K
 | .entryStore _ m s y=>mB H (ev l m) (ev l s) (ev l y) fun H'=>K .any H'
 | .range t x=>Oc P t H (ev l x) K
 | .next x false=>Tk H (ev l x) K
 | .entry x=>Od H (ev l x) fun v=>K v H
 | _=>False
def kR (ops:List Oper) (l:List (Nat × SV)) (g:Option (Nat × Bool)) (yes no:List (Nat × SV)→Prop):Prop:=
 match g with
 | none=>yes l
 | some (j,want)=>match (ops[j]?).bind (·.dst) with
  | none=>False
  | some t=>match look l t with
   | .val (.bool true)=>match want with | true=>yes l | false=>no l
   | .val (.bool false)=>match want with | true=>no l | false=>yes l
   | .bl p _=>match want with
    | true=>Br p (aQ (put l t (.val (.bool true))) yes) (aQ (put l t (.val (.bool false))) no)
    | false=>Br p (aQ (put l t (.val (.bool true))) no) (aQ (put l t (.val (.bool false))) yes)
   | .tup []=>no l
   | _=>False
def fJ (P:Program) (Γ:List Con) (N:Nat) (all:List Oper) (ops:List Oper):List (Nat × SV)→List HO→(List (Nat × SV)→List HO→Prop)→Prop:=
 List.rec (motive:=fun _=>List (Nat × SV)→List HO→(List (Nat × SV)→List HO→Prop)→Prop)
  (fun l H K=>K l H)
  (fun o _ ih l H K=>kR all l o.guard
   (fun l=>op1 P Γ o l H fun v H'=>setT N l o.dst v fun l'=>ih l' H' K)
   (fun l=>setT N l o.dst (.tup []) fun l'=>ih l' H K)) ops
theorem rQ (P:Program) (Γ:List Con) (N:Nat) (all:List Oper) (o:Oper) (r:List Oper) (l:List (Nat × SV)) (H:List HO) (K:List (Nat × SV)→List HO→Prop):fJ P Γ N all (o::r) l H K=
  kR all l o.guard
   (fun l=>op1 P Γ o l H fun v H'=>setT N l o.dst v fun l'=>fJ P Γ N all r l' H' K)
   (fun l=>setT N l o.dst (.tup []) fun l'=>fJ P Γ N all r l' H K):=rfl
structure Pin (p:SV→Prop):Prop where
 ex:∃s,p s
structure Pinned (e e' C:Prop):Prop where
 val:e
 heap:e'
 go:C
def dD (l:List (Nat × SV)):List Operand→List (Nat × SV)
 | []=>[]
 | .tmp t::r=>(t,look l t)::dD l r
 | _::r=>dD l r
def uV (P:Program) (Γ:List Con) (N:Nat) (all:List Oper) (ops:List Oper):List (Nat × SV)→List HO→(List (Nat × SV)→Prop)→Prop:=
 List.rec (motive:=fun _=>List (Nat × SV)→List HO→(List (Nat × SV)→Prop)→Prop)
  (fun l _ K=>K l)
  (fun o _ ih l H K=>kR all l o.guard
   (fun l=>Pin fun s=>aQ (dD l o.op.operands.toList) fun l₁=>op1 P Γ o l₁ H fun s' H'=>Pinned (s'=s) (H'=H) (setT N l o.dst s fun l'=>ih l' H K))
   (fun l=>setT N l o.dst (.tup []) fun l'=>ih l' H K)) ops
theorem Ln (P:Program) (Γ:List Con) (N:Nat) (all:List Oper) (o:Oper) (r:List Oper) (l:List (Nat × SV)) (H:List HO) (K:List (Nat × SV)→Prop):uV P Γ N all (o::r) l H K=
  kR all l o.guard
   (fun l=>Pin fun s=>aQ (dD l o.op.operands.toList) fun l₁=>op1 P Γ o l₁ H fun s' H'=>Pinned (s'=s) (H'=H) (setT N l o.dst s fun l'=>uV P Γ N all r l' H K))
   (fun l=>setT N l o.dst (.tup []) fun l'=>uV P Γ N all r l' H K):=rfl
def xH (o:Oper) (t:Nat):Bool:=match o.dst with
 | some u=>Nat.beq u t
 | none=>false
def waits (o:Oper) (j:Nat):Bool:=o.after.toList.any fun e=>Region.binds .any e&&Nat.beq e.on j
def Oe (ops:List Oper) (j:Nat):Option Nat:=(ops[j]?).bind (·.dst)
def Eh (ops:List Oper) (m i:Nat) (o:Oper) (t:Nat):Bool:=(List.range m).all fun j=>match ops[j]? with
 | some o'=> !xH o' t || (waits o j&&Nat.blt j i || waits o' i)
 | none=>true
def opOk (ops:List Oper) (m i:Nat) (o:Oper):Bool:=
 (o.op.operands.toList.all fun x=>match x with
  | .tmp t=>Eh ops m i o t
  | _=>true)&&
 ((match o.guard with
   | some (j,_)=>match Oe ops j with
    | some t=>Eh ops m i o t
    | none=>true
   | none=>true)&&
 (match o.dst with
  | some t=>(List.range m).all fun j=>Nat.beq j i || (match ops[j]? with
   | some o'=> !xH o' t
   | none=>true)
  | none=>true))
def topo (i:Nat) (o:Oper):Bool:=o.after.toList.all fun e=> !Region.binds .any e || Nat.blt e.on i
def To (x:Operand) (o:Oper):Bool:=match x with
 | .tmp u=>xH o u
 | _=>false
def Lo (ops:List Oper) (o:Oper) (t:Nat):Bool:=(o.op.operands.toList.any fun y=>match y with
  | .tmp u=>Nat.beq u t
  | _=>false) || (match o.guard with
  | some (j,_)=>(match Oe ops j with
   | some u=>Nat.beq u t
   | none=>false)
  | none=>false)
def Tq (o:Oper):Bool:=match o.op with
 | .select _ _=>false
 | .defer _=>false
 | _=>true
def pureArg:Op→Option Operand
 | .move x=>some x
 | .extract x _=>some x
 | _=>none
def isExt:Op→Bool
 | .extract _ _=>true
 | _=>false
def Ei (ext:Bool) (ops:List Oper) (i:Nat):Bool:=match ops[i]? with
 | some o=>(match pureArg o.op,o.guard,o.dst with
  | some x,none,some t=>(bif isExt o.op then ext else o.after.toList.all fun e=> !Region.binds .any e)&&(List.range ops.length).all fun j=>match ops[j]? with
   | some o'=>(Nat.beq j i || !xH o' t)&&((!To x o' || waits o j)&&((Nat.beq j i || (!Lo ops o' t || waits o' i))&&Tq o'))
   | none=>true
  | _,_,_=>false)
 | none=>false
def kS (ops:List Oper) (i:Nat):Bool:=Ei true ops i
def nU (ms:List Nat) (o:Oper):Nat:=o.after.toList.foldl (fun acc e=>bif Region.binds .any e then Nat.lor (Nat.lor acc (Nat.shiftLeft 1 e.on)) (ms.getD e.on 0) else acc) 0
def fL:List Oper→List Nat→List Nat
 | [],ms=>ms
 | o::r,ms=>fL r (ms++ [nU ms o])
def tQ {β:Sort _}:List Oper→List Nat→(List Nat→β)→β
 | [],ms,k=>k ms
 | o::r,ms,k=>xA (nU ms o) fun m=>aQ (ms++ [m]) fun ms'=>tQ r ms' k
theorem pB {β:Sort _}:∀(ops:List Oper) (ms:List Nat) (k:List Nat→β),tQ ops ms k=k (fL ops ms)
 | [],_,_=>rfl
 | o::r,ms,k=>by simp only[tQ,fL];rw[tO,aL,pB r]
def fE (ms:List Nat) (i j:Nat):Bool:=Nat.testBit (ms.getD i 0) j
def Ej (ms:List Nat) (ext:Bool) (ops:List Oper):Nat→Nat
 | 0=>0
 | k+1=>match ops[k]? with
  | some _=>bif (List.range k).all (fun j=>fE ms k j || Ei ext ops j) then Ej ms ext ops k else k+1
  | none=>0
def Tr (l:List Oper):Bool:=l.any fun o=>match o.op with
 | .store _ (.tmp t) _=>l.any fun o'=>match o'.op with
  | .alloc _=>xH o' t
  | _=>false
 | _=>false
def Ek (ops:List Oper) (n:Nat):Nat:=tQ ops [] fun ms=>xA (Ej ms false ops n) fun m=>bif Tr (ops.take m) then Ej ms true ops n else m
def El (ops:List Oper) (p:Nat→Oper→Bool) (n:Nat):Bool:=(List.range n).all fun i=>match ops[i]? with
 | some o=>p i o
 | none=>true
def pC (ops:List Oper) (m:Nat):Bool:=Nat.ble m ops.length&&(El ops (opOk ops m) m&&(El ops topo ops.length&&tQ ops [] fun ms=>El ops (fun i _=>Nat.blt i m || (List.range i).all (fun j=>fE ms i j || (Nat.blt j m&&kS ops j))) ops.length))
structure Fx where
 p:Nat
 n:Nat
 o:HO
structure Rc where
 i:Nat
 o:Oper
 l:List (Nat × SV)
 s:SV
def cW (B:List HO):List Fx→(Nat→Bool)→List HO
 | [],_=>B
 | ⟨p,n,o⟩::r,S=>bif S p then hset (cW B r S) n o else cW B r S
theorem fM (B:List HO) (f:Fx) (r:List Fx) (S:Nat→Bool):cW B (f::r) S=bif S f.p then hset (cW B r S) f.n f.o else cW B r S:=by cases f;rfl
def psK:List Fx→(List Nat→Prop)→Prop
 | [],k=>k []
 | ⟨p,_,_⟩::r,k=>psK r fun ps=>k (p::ps)
theorem Ts:∀(fx:List Fx) (k:List Nat→Prop),psK fx k=k (fx.map (·.p))
 | [],_=>rfl
 | ⟨p,_,_⟩::r,k=>by simp only[psK];rw[Ts r];rfl
def lenK:List HO→Nat→(Nat→Prop)→Prop
 | [],n,k=>k n
 | _::r,n,k=>lenK r (n+1) k
theorem Of:∀(l:List HO) (n:Nat) (k:Nat→Prop),lenK l n k=k (n+l.length)
 | [],_,_=>rfl
 | _::r,n,k=>by simp only[lenK];rw[Of r];simp only[List.length_cons];congr 1;omega
def isOwn (Γ:List Con) (c:Call):Bool:=match c.callee with
 | .value (.func f)=>(match rM Γ f with
  | some d=>(match d.hp,d.lin,d.own with
   | none,none,some _=>true
   | _,_,_=>false)
  | none=>false)
 | _=>false
def isA (Γ:List Con) (o:Oper):Bool:=match o.op,o.guard with
 | .makeSlice _ _ _,none=>true
 | .alloc _,none=>true
 | .call c,none=>isOwn Γ c
 | _,_=>false
def isL (Γ:List Con) (o:Oper):Bool:=match o.op with
 | .call c=>(match c.callee with
  | .builtin .append=>true
  | .builtin .copy=>true
  | .value (.func f)=>(match rM Γ f with
   | some c=>(match c.lin,c.hp with
    | some (0,_,_),_=>true
    | _,some _=>true
    | _,_=>false)
   | none=>false)
  | _=>false)
 | .store _ _ _=>true
 | .mapEntry _ _ _=>true
 | .entryStore _ _ _ _=>true
 | .mapUpdate _ _ _ _=>true
 | _=>false
def xI:SV→Nat
 | .ref n _=>n
 | .ptr n _=>n
 | .vptr n _ _ _ _=>n
 | .sub n _ _ _=>n
 | .part n _ _ _ _=>n
 | .lim n _ _ _=>n
 | .mp n=>n
 | _=>0
def tgt (l:List (Nat × SV)) (o:Oper):Nat:=match o.op with
 | .call c=>(match c.args.toList with
  | x:: _=>xI (ev l x)
  | []=>0)
 | .store _ a _=>xI (ev l a)
 | .mapEntry _ a _=>xI (ev l a)
 | .entryStore _ a _ _=>xI (ev l a)
 | .mapUpdate _ a _ _=>xI (ev l a)
 | _=>0
def Tt (P:Program) (t:TypeId) (nm:Nat) (n c:SV) (K:SV→HO→Prop):Prop:=
 match bK P t,n,c with
 | some e,.val (.int _ n),.val (.int _ c)=>match tyOf P 24 e,P.info? e,gL P e with
  | some ty,some i,some z=>bif Nat.beq i.size ty.size&&iF ty z&&Nat.beq z.length ty.size then (match dec ty z with
    | some x0=>Need (0≤n∧n≤c∧c≤140737488355328∧c*(i.bytes:Int)≤140737488355328) (K (.ref nm 1) (.vec 1 ty (List.replicate n.toNat x0) e))
    | none=>False) else False
  | _,_,_=>False
 | _,_,_=>False
def ownD (cl:List SV→(SV→HO→Prop)→Prop) (args:List SV) (nm:Nat) (K:SV→HO→Prop):Prop:=
 hnfL args fun as=>bif bare.bareL as then cl as fun r o=>hnf r fun r=>(match o with
  | .vec _ t ys e=>bif t.flat&&okR r then hnf (renm nm r) fun r'=>K r' (.vec 1 t ys e) else False
  | _=>False) else False
def Em (P:Program) (Γ:List Con) (o:Oper) (l:List (Nat × SV)) (nm:Nat) (K:SV→HO→Prop):Prop:=match o.op with
 | .makeSlice t n c=>bif Ee P t then Nz P t (ev l n) (ev l c) fun n ty e ei=>K (.ref nm 1) (.vv 1 0 ty (List.replicate n.toNat []) none e ei) else Tt P t nm (ev l n) (ev l c) K
 | .alloc t=>(match gL P t with
  | some z=>aQ z fun z'=>K (.ptr nm 0) (.cells z' t)
  | none=>False)
 | .call c=>(match c.callee with
  | .value (.func f)=>(match rM Γ f with
   | some d=>(match d.hp,d.lin,d.own with
    | none,none,some cl=>ownD cl (c.args.toList.map (ev l)) nm K
    | _,_,_=>False)
   | none=>False)
  | _=>False)
 | _=>False
structure PinH (p:SV→HO→Prop):Prop where
 ex:∃s o,p s o
structure Chk (p C:Prop):Prop where
 chk:p
 go:C
structure Fin0:Prop where
def fxW (o:Oper) (n:Nat):List Fx→Bool
 | []=>true
 | ⟨p,m,_⟩::r=>(!Nat.beq m n || waits o p)&&fxW o n r
theorem Gx {o:Oper} {n:Nat}:∀ {fx:List Fx},fxW o n fx=true→∀f∈fx,f.n=n→waits o f.p=true
 | ⟨p,m,b⟩::r,h,f,hf,hn=>by
  simp only[fxW,Bool.and_eq_true,Bool.or_eq_true,Bool.not_eq_true'] at h
  rcases List.mem_cons.1 hf with rfl | hf
  ·rcases h.1 with h1 | h1
   ·have hn:m=n:=hn
    rw[hn] at h1
    simp at h1
   ·exact h1
  ·exact Gx h.2 f hf hn
def rR (P:Program) (Γ:List Con) (N:Nat) (all:List Oper) (n0:Nat) (ops:List Oper):Nat→List (Nat × SV)→List HO→List Fx→List Rc→Nat→(List (Nat × SV)→List HO→List Fx→List Rc→Prop)→Prop:=
 List.rec (motive:=fun _=>Nat→List (Nat × SV)→List HO→List Fx→List Rc→Nat→(List (Nat × SV)→List HO→List Fx→List Rc→Prop)→Prop)
  (fun _ l H fx rs _ K=>K l H fx rs)
  (fun o _ ih i l H fx rs na K=>kR all l o.guard
   (fun l=>match isA Γ o with
    | true=>Em P Γ o l (n0+na) fun s ob=>setT N l o.dst s fun l'=>aQ (hset H (n0+na) ob) fun H'=>ih (i+1) l' H' (⟨i,n0+na,ob⟩::fx) rs (na+1) K
    | false=>match isL Γ o with
     | true=>PinH fun s ob=>aQ (dD l o.op.operands.toList) fun l₁=>op1 P Γ o l₁ H fun s' H'=>Pinned (s'=s) (H'=hset H (tgt l₁ o) ob)
       (bif Nat.blt (tgt l₁ o) n0 || (Nat.blt (tgt l₁ o) (n0+na)&&fxW o (tgt l₁ o) fx) then setT N l o.dst s fun l'=>aQ (hset H (tgt l₁ o) ob) fun H''=>ih (i+1) l' H'' (⟨i,tgt l₁ o,ob⟩::fx) (⟨i,o,l₁,s⟩::rs) na K else False)
     | false=>Pin fun s=>aQ (dD l o.op.operands.toList) fun l₁=>op1 P Γ o l₁ H fun s' H'=>Pinned (s'=s) (H'=H) (setT N l o.dst s fun l'=>ih (i+1) l' H fx (⟨i,o,l₁,s⟩::rs) na K))
   (fun l=>setT N l o.dst (.tup []) fun l'=>ih (i+1) l' H fx rs na K)) ops
theorem Lp (P:Program) (Γ:List Con) (N:Nat) (all:List Oper) (n0:Nat) (o:Oper) (r:List Oper) (i:Nat) (l:List (Nat × SV)) (H:List HO) (fx:List Fx) (rs:List Rc) (na:Nat) (K:List (Nat × SV)→List HO→List Fx→List Rc→Prop):rR P Γ N all n0 (o::r) i l H fx rs na K=
  kR all l o.guard
   (fun l=>match isA Γ o with
    | true=>Em P Γ o l (n0+na) fun s ob=>setT N l o.dst s fun l'=>aQ (hset H (n0+na) ob) fun H'=>rR P Γ N all n0 r (i+1) l' H' (⟨i,n0+na,ob⟩::fx) rs (na+1) K
    | false=>match isL Γ o with
     | true=>PinH fun s ob=>aQ (dD l o.op.operands.toList) fun l₁=>op1 P Γ o l₁ H fun s' H'=>Pinned (s'=s) (H'=hset H (tgt l₁ o) ob)
       (bif Nat.blt (tgt l₁ o) n0 || (Nat.blt (tgt l₁ o) (n0+na)&&fxW o (tgt l₁ o) fx) then setT N l o.dst s fun l'=>aQ (hset H (tgt l₁ o) ob) fun H''=>rR P Γ N all n0 r (i+1) l' H'' (⟨i,tgt l₁ o,ob⟩::fx) (⟨i,o,l₁,s⟩::rs) na K else False)
     | false=>Pin fun s=>aQ (dD l o.op.operands.toList) fun l₁=>op1 P Γ o l₁ H fun s' H'=>Pinned (s'=s) (H'=H) (setT N l o.dst s fun l'=>rR P Γ N all n0 r (i+1) l' H fx (⟨i,o,l₁,s⟩::rs) na K))
   (fun l=>setT N l o.dst (.tup []) fun l'=>rR P Γ N all n0 r (i+1) l' H fx rs na K):=rfl
def memN (n:Nat):List Nat→Bool
 | []=>false
 | x::r=>Nat.beq x n || memN n r
def subs:List Nat→List (List Nat)
 | []=>[[]]
 | p::r=>subs r++(subs r).map (p:: ·)
def admB (ms:List Nat) (ps:List Nat) (i:Nat) (sub:List Nat):Bool:=
 !memN i sub&&(ps.all (fun p=> !fE ms i p || memN p sub)&&sub.all (fun p=> !fE ms p i&&ps.all fun q=> !fE ms p q || memN q sub))
def chk1 (P:Program) (Γ:List Con) (B:List HO) (fx:List Fx) (i:Nat) (o:Oper) (l:List (Nat × SV)) (s:SV) (sub:List Nat):Prop:=
 gA (cW B fx fun j=>memN j sub) fun H=>op1 P Γ o l H fun s' H'=>Pinned (s'=s) (H'=cW B fx fun j=>memN j sub || Nat.beq j i) Fin0
def chkS (P:Program) (Γ:List Con) (ms ps:List Nat) (B:List HO) (fx:List Fx) (i:Nat) (o:Oper) (l:List (Nat × SV)) (s:SV) (sl:List (List Nat)):Prop:=
 List.rec (motive:=fun _=>Prop) Fin0 (fun sub _ ih=>cond (admB ms ps i sub) (Chk (chk1 P Γ B fx i o l s sub) ih) ih) sl
theorem Rb (P:Program) (Γ:List Con) (ms ps:List Nat) (B:List HO) (fx:List Fx) (i:Nat) (o:Oper) (l:List (Nat × SV)) (s:SV) (sub:List Nat) (sl:List (List Nat)):chkS P Γ ms ps B fx i o l s (sub::sl)=cond (admB ms ps i sub) (Chk (chk1 P Γ B fx i o l s sub) (chkS P Γ ms ps B fx i o l s sl)) (chkS P Γ ms ps B fx i o l s sl):=rfl
def chkR (P:Program) (Γ:List Con) (ms ps:List Nat) (B:List HO) (fx:List Fx) (rs:List Rc):Prop:=
 List.rec (motive:=fun _=>Prop) Fin0 (fun r _ ih=>match r with
  | ⟨i,o,l,s⟩=>Chk (chkS P Γ ms ps B fx i o l s (subs ps)) ih) rs
theorem Rd (P:Program) (Γ:List Con) (ms ps:List Nat) (B:List HO) (fx:List Fx) (r:Rc) (rs:List Rc):chkR P Γ ms ps B fx (r::rs)=Chk (chkS P Γ ms ps B fx r.i r.o r.l r.s (subs ps)) (chkR P Γ ms ps B fx rs):=by cases r;rfl
def cntA (Γ:List Con):List Oper→Nat
 | []=>0
 | o::r=>bif isA Γ o then cntA Γ r+1 else cntA Γ r
def Tu (Γ:List Con):List Oper→Bool
 | []=>false
 | o::r=>isA Γ o || (isL Γ o || Tu Γ r)
def Og (P:Program) (Γ:List Con) (N:Nat) (all:List Oper) (m:Nat) (l:List (Nat × SV)) (H:List HO) (K:List (Nat × SV)→List HO→Prop):Prop:=
 bif Tu Γ (all.take m) then
  aQ (H++List.replicate (cntA Γ (all.take m)) .res) fun B=>lenK H 0 fun n0=>rR P Γ N all n0 (all.take m) 0 l B [] [] 0 fun l' H' fx rs=>
   Chk (tQ all [] fun ms=>psK fx fun ps=>chkR P Γ ms ps B fx rs) (fJ P Γ N all (all.drop m) l' H' K)
 else uV P Γ N all (all.take m) l H fun l'=>fJ P Γ N all (all.drop m) l' H K
structure Ann where
 X:Type
 pre:X→Prop
 mod:X→List HO→List (Nat × SV)
 heap:X→List HO→List HO:=fun _ H=>H
 objs:List Nat:=[]
 mu:X→Nat:=fun _=>0
 swp:Option (Nat × Nat):=none
def mem (n:Nat):List Nat→Bool
 | []=>false
 | x::r=>Nat.beq x n || mem n r
def allN (p:Nat→Bool):SV→Bool
 | .ref nm _=>p nm
 | .vptr nm _ _ _ _=>p nm
 | .wide nm _=>p nm
 | .ptr nm _=>p nm
 | .mp nm=>p nm
 | .sub nm _ _ _=>p nm
 | .subp nm _ _=>p nm
 | .part nm _ _ _ _=>p nm
 | .lim nm _ _ _=>p nm
 | .lit _ l=>allNL p l
 | .lelem l _=>allNL p l
 | .fmp _ l=>allNL p l
 | .agg l=>allNL p l
 | .tup l=>allNL p l
 | .clo _ a b=>allNL p a&&allNL p b
 | _=>true
where allNL (p:Nat→Bool):List SV→Bool
 | []=>true
 | x::r=>allN p x&&allNL p r
def names (ns:List Nat) (s:SV):Bool:= !allN (fun n=> !mem n ns) s
def under (n:Nat) (s:SV):Bool:=allN (fun m=>Nat.blt m n) s
def bO:Code→List Nat
 | .region _ ops _=>ops.toList.filterMap (·.dst)
 | .seq a b=>bO a++bO b
 | .cond _ a b=>bO a++bO b
 | .block _ c=>bO c
 | .loop c=>bO c
 | .scope c=>bO c
 | _=>[]
def base (ws objs:List Nat):List (Nat × SV)→List (Nat × SV)
 | []=>[]
 | (t,v)::r=>(t,bif mem t ws || names objs v then .any else v)::base ws objs r
def puts:List (Nat × SV)→List (Nat × SV)→List (Nat × SV)
 | [],l=>l
 | (t,v)::r,l=>puts r (put l t v)
def bD:HO→Bool
 | .cells _ _=>true
 | _=>false
def reV (objs:List Nat) (H' H:List HO):SV→SV
 | .ptr nm off=>bif mem nm objs then (bif bD (hget H' nm) then .ptr nm off else .any) else .ptr nm off
 | .ref nm v=>bif mem nm objs then (bif Nat.beq v (cC H' nm)&&Nat.blt 0 (cC H nm) then .ref nm (cC H nm) else .any) else .ref nm v
 | s=>bif names objs s then .any else s
def entM (objs:List Nat) (H' H:List HO) (n:Nat) (l':List (Nat × SV)):List (Nat × SV)→Prop
 | []=>True
 | (t,s)::r=>(bif under n s&&under n (look l' t) then ent (reV objs H' H (look l' t)) s else ent .any s)∧entM objs H' H n l' r
def entC (objs:List Nat) (H' H:List HO) (n:Nat):List SV→List SV→Prop
 | [],[]=>True
 | x::r,y::r'=>(bif under n y&&under n x then ent (reV objs H' H x) y else ent .any y)∧entC objs H' H n r r'
 | _,_=>False
def aBv {t' t:Ty} (e:t'=t) (m:MapS t'.T) (K:MapS t.T→Prop):Prop:=Eq.rec (motive:=fun t _=>(MapS t.T→Prop)→Prop) (fun K=>K m) e K
theorem Tv {t' t:Ty} (e:t'=t) (m:MapS t'.T) (K:MapS t.T→Prop):aBv e m K=K (e ▸ m):=by subst e;rfl
def Tw (t t':Ty) (m:MapS t.T) (m':MapS t'.T):Prop:=if h:t=t' then aBv h m (fun m=>m=m') else False
def aBw {t' t:Ty} (e:t'=t) (xss:List (List t'.T)) (K:List (List t.T)→Prop):Prop:=Eq.rec (motive:=fun t _=>(List (List t.T)→Prop)→Prop) (fun K=>K xss) e K
theorem Re {t:Ty} (xss:List (List t.T)) (K:List (List t.T)→Prop):aBw rfl xss K=K xss:=rfl
def vvEq (t t':Ty) (xss:List (List t.T)) (yss:List (List t'.T)):Prop:=if h:t=t' then aBw h xss (fun xss=>xss=yss) else False
def entO (objs:List Nat) (H' H:List HO) (n nm:Nat):HO→HO→Prop
 | _,.dead=>True
 | .cells l e,.cells l' e'=>e=e'∧entC objs H' H n l l'
 | .vec v t xs e,.vec v' t' ys e'=>e=e'∧(bif mem nm objs then 0<v' else v=v')∧qD t t' xs ys
 | .fro v t xs,.fro v' t' ys=>v=v'∧qD t t' xs ys
 | .frc l,.frc l'=>entC objs H' H n l l'
 | .gone,.gone=>mem nm objs=false
 | .yst st m it,.yst st' m' it'=>mem nm objs=false∧st=st'∧m=m'∧it=it'
 | .map k t m,.map k' t' m'=>mem nm objs=false∧k=k'∧Tw t t' m m'
 | .vv k s t xss p eo ei,.vv k' s' t' yss p' eo' ei'=>mem nm objs=false∧k=k'∧s=s'∧vvEq t t' xss yss∧eo=eo'∧ei=ei'∧p.isNone=true∧p'.isNone=true
 | .lnt k t xs,.lnt k' t' ys=>mem nm objs=false∧k=k'∧qD t t' xs ys
 | .qm k l,.qm k' l'=>mem nm objs=false∧k=k'∧l=l'
 | .frm k l,.frm k' l'=>mem nm objs=false∧k=k'∧l=l'
 | .mit a s l c,.mit a' s' l' c'=>mem nm objs=false∧(mem a' objs=false∧Nat.blt a' n=true)∧a=a'∧s=s'∧l=l'∧c=c'
 | _,_=>False
def entH (objs:List Nat) (A B:List HO) (n:Nat):Nat→List HO→List HO→Prop
 | _,_,[]=>True
 | k,o'::r',o::r=>entO objs A B n k o' o∧entH objs A B n (k+1) r' r
 | _,[],_:: _=>False
def annL (an:Ann) (x:an.X) (ws:List Nat) (l:List (Nat × SV)) (H:List HO):List (Nat × SV):=puts (an.mod x H) (base ws an.objs l)
structure Arr (pre ent:Prop):Prop where
 pre:pre
 ent:ent
def kT (an:Ann) (x:an.X) (H:List HO) (l':List (Nat × SV)) (H':List HO):Prop:=
 Arr (an.pre x) (entM an.objs H' (an.heap x H) H.length l' (an.mod x H)∧entH an.objs H' (an.heap x H) H.length 0 H' (an.heap x H))
def swV (a b:Nat):SV→SV
 | .ptr nm off=>bif Nat.beq nm b then .ptr a off else bif Nat.beq nm a then .any else .ptr nm off
 | s=>bif names [a,b] s then .any else s
def swT (a b:Nat) (p:Nat × SV):Nat × SV:=(p.1,swV a b p.2)
def swO (a b:Nat):HO→HO
 | .cells l e=>.cells (l.map (swV a b)) e
 | .frc l=>.frc (l.map (swV a b))
 | .mit m s l c=>bif Nat.beq m a then .dead else .mit m s l c
 | o=>o
def swH (a b:Nat) (H:List HO):List HO:=hset (hset (H.map (swO a b)) a (swO a b (hget H b))) b .dead
def rS (an:Ann) (x:an.X) (H:List HO) (l':List (Nat × SV)) (H':List HO):Prop:=
 match an.swp with
 | none=>kT an x H l' H'
 | some (t,a)=>match look l' t with
  | .ptr b 0=>bif mem a an.objs&&(Nat.ble H.length b&&(Nat.blt a H.length&&(bD (hget H' a)&&bD (hget H' b)))) then eA (l'.map (swT a b)) fun l'=>gA (swH a b H') fun H'=>kT an x H l' H' else False
  | _=>False
structure LoopVC (X:Type) (init:X→Prop) (round:X→Prop):Prop where
 init:∃x,init x
 round:∀x,round x
abbrev Wp:=List (Nat × SV)→List HO→(Exit→List (Nat × SV)→List HO→Prop)→Prop
def tR (body:Wp) (n:Nat):Wp:=
 Nat.rec (motive:=fun _=>Wp) (fun _ _ _=>False)
  (fun _ ih l H K=>body l H fun e l' H'=>match e with
   | .normal=>eA l' fun l'=>gA H' fun H'=>ih l' H' K
   | e=>K e l' H') n
theorem Gy (body:Wp) (n:Nat) (l:List (Nat × SV)) (H:List HO) (K:Exit→List (Nat × SV)→List HO→Prop):tR body (n+1) l H K=body l H fun e l' H'=>match e with
  | .normal=>eA l' fun l'=>gA H' fun H'=>tR body n l' H' K
  | e=>K e l' H':=rfl
def Tx (ws:List Nat):List (Nat × SV)→Bool
 | []=>true
 | (t,_)::r=>mem t ws&&Tx ws r
def lB:Code→Option Nat
 | .region id _ _=>some id
 | .seq a b=>match lB a with
  | some n=>some n
  | none=>lB b
 | .cond _ _ _=>none
 | .block _ c=>lB c
 | .loop c=>lB c
 | .scope c=>lB c
 | _=>none
structure Anns where
 loops:List (Nat × Ann):=[]
 cuts:List (Nat × Ann):=[]
 rounds:Nat:=40
 asks:List (Nat × List Nat):=[]
def Oh:List (Nat × Ann)→Nat→Option Ann
 | [],_=>none
 | (k,a)::r,n=>bif Nat.beq k n then some a else Oh r n
def Tz:List (Nat × List Nat)→Nat→Option (List Nat)
 | [],_=>none
 | (k,a)::r,n=>bif Nat.beq k n then some a else Tz r n
def xJ (A:Anns) (key:Nat):List Nat:=match Oh A.loops key with
 | some an=>an.objs
 | none=>match Tz A.asks key with
  | some o=>o
  | none=>[]
structure Ask (objs:List Nat) (p:Ann→Prop):Prop where
 ex:∃an,an.objs=objs∧p an
def pD (A:Anns) (key:Nat) (p:Ann→Prop) (no:Prop):Prop:=match Oh A.loops key with
 | some an=>p an
 | none=>match Tz A.asks key with
  | some o=>Ask o p
  | none=>no
theorem uW {A:Anns} {key:Nat} {p:Ann→Prop} {no:Prop} (h:pD A key p no):(∃an,xJ A key=an.objs∧p an)∨no:=by
 unfold pD at h
 unfold xJ
 split at h
 ·exact .inl ⟨_,rfl,h⟩
 ·split at h
  ·obtain ⟨an,h1,h2⟩:=h.ex
   exact .inl ⟨an,h1.symm,h2⟩
  ·exact .inr h
def Oi (A:Anns) (c:Code):Option Ann:=
 match A.cuts with
 | []=>none
 | cs=>match lB c with
  | some n=>Oh cs n
  | none=>none
def aS (A:Anns):Nat→Code→List Nat
 | key,.seq a b=>aS A key a++aS A key b++(match Oi A b with
  | some an=>an.objs
  | none=>[])
 | key,.cond _ a b=>aS A key a++aS A key b
 | _,.block id c=>aS A id c
 | key,.loop c=>aS A key c++xJ A key
 | key,.scope c=>aS A key c
 | key,.rangeFunc _ _ x y=>(aS A key x++aS A key y)++xJ A key
 | _,_=>[]
def within (objs:List Nat) (n:Nat):List Nat→Bool
 | []=>true
 | x::r=>(mem x objs || Nat.ble n x)&&within objs n r
def En:HO→Bool
 | .gone=>true
 | _=>false
def uX:List HO→List HO→Bool
 | [],_=>true
 | o::r,o'::r'=>(!En o || En o')&&uX r r'
 | _,[]=>false
def Gz (ws tch:List Nat) (an:Ann) (H:List HO):Prop:=∀x,(Tx ws (an.mod x H)&&Nat.beq (an.heap x H).length H.length&&within an.objs H.length tch&&uX H (an.heap x H))=true
def lntV (n:Nat):List SV→List SV
 | [.seq _ _]=>[.subp n 1 0]
 | vs=>vs.map Gn
def lntH:List SV→List HO
 | [.seq t xs]=>[.lnt 1 t xs]
 | _=>[]
def Ha:HO→Bool
 | .lnt 1 _ _=>true
 | _=>false
def Oj (vs:List SV) (n:Nat) (D:List Nat) (H:List HO):Bool:=match vs with
 | [.seq _ _]=>Ha (hget H n)&& !mem n D
 | _=>true
def lntX (vs:List SV) (n:Nat) (H:List HO):List HO:=match vs with
 | [.seq _ _]=>hset H n .dead
 | _=>H
def Hc:List SV→Prop→Prop
 | [],C=>C
 | .val (.int k n)::r,C=>giv k n (Hc r C)
 | _::r,C=>Hc r C
def Hd:List Nat→List SV→List (Nat × SV)→List (Nat × SV)
 | t::ts,s::ss,l=>Hd ts ss (put l t s)
 | _,_,l=>l
structure RangeVC (X:Type) (init:Prop) (round stop:X→Prop):Prop where
 init:init
 round:∀x,round x
 stop:∀x,stop x
def Lq (H:List HO):List SV→Option (Nat × Nat)
 | [.lelem [.ref nm k] 0]=>match hget H nm with
  | .vec j _ _ _=>bif Nat.beq j k then some (nm,k) else none
  | _=>none
 | _=>none
def rT (nm k n:Nat) (H:List HO):Prop:=match hget H nm with
 | .vec j t xs _=>j=k∧t.size=1∧List.length (α:=t.T) xs=n
 | _=>False
def tS (N:Nat) (A:Anns) (key:Nat) (ps:Array Tmp) (x y:Code) (an:Ann) (n:Nat) (items:Nat→List SV) (l:List (Nat × SV)) (H:List HO) (X Y:List (Nat × SV)→List HO→(Exit→List (Nat × SV)→List HO→Prop)→Prop) (K:Exit→List (Nat × SV)→List HO→Prop):Prop:=
 bif !mem H.length an.objs then Need (Gz [] (aS A key x++aS A key y) an H) (RangeVC an.X (∃z,an.mu z=0∧kT an z H l H)
  (fun z=>an.pre z→an.mu z<n→hnfL (items (an.mu z)) fun vs=>bif Nat.beq vs.length ps.size&&(ps.toList.all fun t=>Nat.blt t N) then Hc vs (hnfL (lntV (H.length+1) vs) fun vs'=>eA (Hd ps.toList vs' (base [] an.objs l)) fun l₁=>gA ((an.heap z H++ [.gone])++lntH vs) fun H₁=>
   X l₁ H₁ fun e l' H'=>match e with
    | .normal=>Y l' H' fun e l' H'=>bif En (hget H' H.length)&&Oj vs (H.length+1) (aS A key x++aS A key y) H' then (match e with
      | .normal=>∃z',an.mu z'=an.mu z+1∧kT an z' H l H'
      | .ret=>eA (base [] ((aS A key x++aS A key y)++an.objs) l) fun l'=>aQ (lntX vs (H.length+1) H') fun H'=>K .ret l' H'
      | .exit n=>eA (base [] ((aS A key x++aS A key y)++an.objs) l) fun l'=>aQ (lntX vs (H.length+1) H') fun H'=>K (.exit n) l' H'
      | _=>False) else False
    | _=>False) else False)
  (fun z=>an.pre z→an.mu z=n→eA (base [] an.objs l) fun l₁=>gA (an.heap z H++ [.gone]) fun H₁=>K .normal l₁ H₁)) else False
def exec (P:Program) (Γ:List Con) (N:Nat) (A:Anns) (key:Nat) (c:Code):Wp:=
 Code.rec (motive:=fun _=>Nat→Wp)
  (fun _ l H K=>
    K .normal l H)
  (fun _ ops draw _ l H K=>
    match draw with
     | false=>fJ P Γ N ops.toList ops.toList l H fun l' H'=>K .normal l' H'
     | true=>bif P.follows .mixedOrders&&pC ops.toList (Ek ops.toList ops.size) then
      Og P Γ N ops.toList (Ek ops.toList ops.size) l H fun l' H'=>K .normal l' H'
     else False)
  (fun a b iha ihb key l H K=>
    match Oi A b with
     | none=>iha key l H fun e l' H'=>match e with
      | .normal=>ihb key l' H' K
      | e=>K e l' H'
     | some an=>Need (Gz (bO a) (aS A key a) an H) (LoopVC Unit (fun _=>iha key l H fun e l' H'=>match e with
       | .normal=>∃x,kT an x H l' H'
       | e=>K e l' H')
      (fun _=>∀x,an.pre x→eA (annL an x (bO a) l H) fun l'=>gA (an.heap x H) fun H'=>ihb key l' H' K)))
  (fun c a b iha ihb key l H K=>
    match ev l c with
     | .val (.bool true)=>iha key l H K
     | .val (.bool false)=>ihb key l H K
     | .bl p _=>Br p (iha key l H K) (ihb key l H K)
     | _=>False)
  (fun id c ihc _ l H K=>
    ihc id l H fun e l' H'=>match e with
     | .exit n=>bif Nat.beq n id then K .normal l' H' else K (.exit n) l' H'
     | e=>K e l' H')
  (fun c ihc key l H K=>
    pD A key (fun an=>Need (Gz (bO c) (aS A key c) an H) (LoopVC an.X (fun x=>kT an x H l H)
      (fun x=>an.pre x→eA (annL an x (bO c) l H) fun l₁=>gA (an.heap x H) fun H₁=>ihc key l₁ H₁ fun e l' H'=>match e with
       | .normal=>∃x',an.mu x'<an.mu x∧rS an x' H l' H'
       | e=>K e l' H'))) (tR (ihc key) A.rounds l H K))
  (fun g ps x y ihx ihy key l H K=>
    match ev l g with
     | .clo f [] caps=>pD A key (fun an=>match rM Γ f with
      | none=>False
      | some c=>match Lq H caps with
       | some nk=>c.cl [.lelem [.sft none] 0] fun r=>hnf r fun r=>match r with
        | .itr n items=>bif !mem nk.1 an.objs then Need (rT nk.1 nk.2 n H∧∀z,an.pre z→rT nk.1 nk.2 n (an.heap z H)) (tS N A key ps x y an n items l H (ihx key) (ihy key) K) else False
        | _=>False
       | none=>aQ (cL H [.clo f [] caps]) fun H=>hnfL (caps.map (view false H)) fun as=>bif bare.bareL as then c.cl as fun r=>hnf r fun r=>match r with
        | .itr n items=>tS N A key ps x y an n items l H (ihx key) (ihy key) K
        | _=>False
       else False) False
     | _=>False)
  (fun n _ l H K=>
    K (.exit n) l H)
  (fun _ _ _ _ _ _=>
    False)
  (fun _ _ l H K=>
    K .normal l H)
  (fun _ _ _ _ _=>
    False)
  (fun _ l H K=>
    K .ret l H)
  (fun _ _ _ _ _=>
    False)
  c key
theorem eB (P:Program) (Γ:List Con) (N:Nat) (A:Anns) (key:Nat) (i:Nat) (ops:Array Oper) (l:List (Nat × SV)) (H:List HO) (K:Exit→List (Nat × SV)→List HO→Prop):exec P Γ N A key (.region i ops false) l H K=(fJ P Γ N ops.toList ops.toList l H fun l' H'=>K .normal l' H'):=rfl
theorem gN (P:Program) (Γ:List Con) (N:Nat) (A:Anns) (key:Nat) (i:Nat) (ops:Array Oper) (l:List (Nat × SV)) (H:List HO) (K:Exit→List (Nat × SV)→List HO→Prop):exec P Γ N A key (.region i ops true) l H K=(bif P.follows .mixedOrders&&pC ops.toList (Ek ops.toList ops.size) then
   Og P Γ N ops.toList (Ek ops.toList ops.size) l H fun l' H'=>K .normal l' H'
  else False):=rfl
theorem jT (P:Program) (Γ:List Con) (N:Nat) (A:Anns) (key:Nat) (a:Code) (b:Code) (l:List (Nat × SV)) (H:List HO) (K:Exit→List (Nat × SV)→List HO→Prop):exec P Γ N A key (.seq a b) l H K=(match Oi A b with
  | none=>exec P Γ N A key a l H fun e l' H'=>match e with
   | .normal=>exec P Γ N A key b l' H' K
   | e=>K e l' H'
  | some an=>Need (Gz (bO a) (aS A key a) an H) (LoopVC Unit (fun _=>exec P Γ N A key a l H fun e l' H'=>match e with
    | .normal=>∃x,kT an x H l' H'
    | e=>K e l' H')
   (fun _=>∀x,an.pre x→eA (annL an x (bO a) l H) fun l'=>gA (an.heap x H) fun H'=>exec P Γ N A key b l' H' K))):=rfl
theorem gO (P:Program) (Γ:List Con) (N:Nat) (A:Anns) (key:Nat) (c:Operand) (a:Code) (b:Code) (l:List (Nat × SV)) (H:List HO) (K:Exit→List (Nat × SV)→List HO→Prop):exec P Γ N A key (.cond c a b) l H K=(match ev l c with
  | .val (.bool true)=>exec P Γ N A key a l H K
  | .val (.bool false)=>exec P Γ N A key b l H K
  | .bl p _=>Br p (exec P Γ N A key a l H K) (exec P Γ N A key b l H K)
  | _=>False):=rfl
theorem fN (P:Program) (Γ:List Con) (N:Nat) (A:Anns) (key:Nat) (id:Nat) (c:Code) (l:List (Nat × SV)) (H:List HO) (K:Exit→List (Nat × SV)→List HO→Prop):exec P Γ N A key (.block id c) l H K=(exec P Γ N A id c l H fun e l' H'=>match e with
  | .exit n=>bif Nat.beq n id then K .normal l' H' else K (.exit n) l' H'
  | e=>K e l' H'):=rfl
theorem gP (P:Program) (Γ:List Con) (N:Nat) (A:Anns) (key:Nat) (c:Code) (l:List (Nat × SV)) (H:List HO) (K:Exit→List (Nat × SV)→List HO→Prop):exec P Γ N A key (.loop c) l H K=(pD A key (fun an=>Need (Gz (bO c) (aS A key c) an H) (LoopVC an.X (fun x=>kT an x H l H)
   (fun x=>an.pre x→eA (annL an x (bO c) l H) fun l₁=>gA (an.heap x H) fun H₁=>exec P Γ N A key c l₁ H₁ fun e l' H'=>match e with
    | .normal=>∃x',an.mu x'<an.mu x∧rS an x' H l' H'
    | e=>K e l' H'))) (tR (exec P Γ N A key c) A.rounds l H K)):=rfl
theorem cX (P:Program) (Γ:List Con) (N:Nat) (A:Anns) (key:Nat) (g:Operand) (ps:Array Tmp) (x:Code) (y:Code) (l:List (Nat × SV)) (H:List HO) (K:Exit→List (Nat × SV)→List HO→Prop):exec P Γ N A key (.rangeFunc g ps x y) l H K=(match ev l g with
  | .clo f [] caps=>pD A key (fun an=>match rM Γ f with
   | none=>False
   | some c=>match Lq H caps with
    | some nk=>c.cl [.lelem [.sft none] 0] fun r=>hnf r fun r=>match r with
     | .itr n items=>bif !mem nk.1 an.objs then Need (rT nk.1 nk.2 n H∧∀z,an.pre z→rT nk.1 nk.2 n (an.heap z H)) (tS N A key ps x y an n items l H (exec P Γ N A key x) (exec P Γ N A key y) K) else False
     | _=>False
    | none=>aQ (cL H [.clo f [] caps]) fun H=>hnfL (caps.map (view false H)) fun as=>bif bare.bareL as then c.cl as fun r=>hnf r fun r=>match r with
     | .itr n items=>tS N A key ps x y an n items l H (exec P Γ N A key x) (exec P Γ N A key y) K
     | _=>False
    else False) False
  | _=>False):=rfl
def nV (P:Program) (l:List (Nat × SV)) (H:List HO):List ResultVar→Option (List SV)
 | []=>some []
 | .tmp t::r=>match nV P l H r with
  | some vs=>some (look l t::vs)
  | none=>none
 | .cell a t::r=>match look l a,aggB P t,cP P t,nV P l H r with
  | .ptr nm off,some ag,some sz,some vs=>match hget H nm with
   | .cells cs _=>match ag with
    | true=>bif Nat.ble (off+sz) cs.length then some (.agg ((cs.drop off).take sz)::vs) else none
    | false=>bif Nat.blt off cs.length then some (cs.getD off .any::vs) else none
   | _=>none
  | _,_,_,_=>none
def qE (l:List SV):SV:=
 match l with
 | [v]=>v
 | vs=>.tup vs
def rU (H:List HO):SV→SV
 | .ref nm ver=>match hget H nm with
  | .vec v t xs _=>bif Nat.beq v ver&&t.flat then .seq t xs else .any
  | .vv v _ t xss none _ _=>bif Nat.beq v ver then .seq (.slice t) xss else .any
  | _=>.any
 | .val v=>.val v
 | .bl p d=>.bl p d
 | .str s=>.str s
 | .ifc=>.ifc
 | .num k=>.num k
 | _=>.any
def Ua (H:List HO):SV→SV
 | .agg l=>.agg (l.map (rU H))
 | .tup l=>.tup (l.map fun s=>match s with
   | .agg l=>.agg (l.map (rU H))
   | s=>rU H s)
 | s=>rU H s
def finV (P:Program) (fresh:Bool) (rs:List ResultVar) (r:SV) (l:List (Nat × SV)) (H:List HO):Prop:=
 match nV P l H rs with
 | some vs=>bif fresh then ent (Ua H (qE vs)) r else aQ (cL H vs) fun H'=>ent (wU false H' (qE vs)) r
 | none=>False
def fin (P:Program) (fresh:Bool) (rs:List ResultVar) (r:SV):Exit→List (Nat × SV)→List HO→Prop
 | .normal,l,H=>finV P fresh rs r l H
 | .ret,l,H=>finV P fresh rs r l H
 | _,_,_=>False
def qF:List SV→Nat→List (Nat × SV)
 | [],_=>[]
 | x::r,n=>(n,x)::qF r (n+1)
def body (P:Program) (Γ:List Con) (A:Anns) (fresh:Bool) (fn:Func) (args:List SV) (r:SV):Prop:=
 match fn.body with
 | some c=>exec P Γ fn.ntmps A 0 c (qF args 0) [] (fin P fresh fn.results.toList r)
 | none=>False
def finL (P:Program) (A:Anns) (c:Code) (same:Bool) (rs:List ResultVar) (r:SV) (t:Ty) (ys:List t.T) (e:TypeId):Exit→List (Nat × SV)→List HO→Prop
 | .normal,l,H=>endL l H
 | .ret,l,H=>endL l H
 | _,_,_=>False
where endL (l:List (Nat × SV)) (H:List HO):Prop:=match nV P l H rs,hget H 0 with
 | some vs,.vec k t' zs e'=>(bif same then Nat.beq k 1&& !mem 0 (aS A 0 c) else true)=true∧e'=e∧qD t' t zs ys∧(match r with
   | .ref 0 1=>(match qE vs with
    | .ref 0 k'=>k'=k
    | _=>False)
   | r=>plain r=true∧ent (qE vs) r)
 | _,_=>False
def Bl (P:Program) (Γ:List Con) (A:Anns) (fn:Func) (pos:Nat) (same:Bool) (args:List SV) (t:Ty) (xs:List t.T) (e:TypeId) (r:SV) (ys:List t.T):Prop:=
 match fn.body with
 | some c=>exec P Γ fn.ntmps A 0 c (qF (args.set pos (.ref 0 1)) 0) [.vec 1 t xs e] (finL P A c same fn.results.toList r t ys e)
 | none=>False
def renb (nm k:Nat):SV→SV
 | .ref n j=>bif Nat.beq n nm&&Nat.beq j k then .ref 0 1 else .any
 | s=>bif plain s then s else .any
def He:List SV→Option (Nat × Nat)
 | []=>none
 | .ref n j:: _=>some (n,j)
 | _::r=>He r
def finO (P:Program) (rs:List ResultVar) (r:SV) (t:Ty) (ys:List t.T) (e:TypeId):Exit→List (Nat × SV)→List HO→Prop
 | .normal,l,H=>endO l H
 | .ret,l,H=>endO l H
 | _,_,_=>False
where endO (l:List (Nat × SV)) (H:List HO):Prop:=match nV P l H rs with
 | some vs=>match He vs with
  | some (nm,k)=>(match hget H nm with
   | .vec k' t' zs e'=>k'=k∧e'=e∧qD t' t zs ys∧ent (qE (vs.map (renb nm k))) r
   | _=>False)
  | none=>(match vs with
   | [.val (.slice none 0 0)]=>r= .ref 0 1∧List.length (α:=t.T) ys=0
   | _=>False)
 | none=>False
def Ub (P:Program) (Γ:List Con) (A:Anns) (fn:Func) (args:List SV) (r:SV) (t:Ty) (ys:List t.T) (e:TypeId):Prop:=
 match fn.body with
 | some c=>exec P Γ fn.ntmps A 0 c (qF args 0) [] (finO P fn.results.toList r t ys e)
 | none=>False
def finH (P:Program) (rs:List ResultVar) (R:SV→List HO→Prop) (H0:List HO):Exit→List (Nat × SV)→List HO→Prop
 | .normal,l,H=>endH l H
 | .ret,l,H=>endH l H
 | _,_,_=>False
where endH (l:List (Nat × SV)) (H:List HO):Prop:=match nV P l H rs with
 | some vs=>∃s H',R s H'∧plain s=true∧ent (qE vs) s∧H'.length=H0.length∧uX H0 H'=true∧entH [] H H' H0.length 0 H H'
 | none=>False
def gC (P:Program) (Γ:List Con) (A:Anns) (fn:Func) (args:List SV) (H:List HO) (R:SV→List HO→Prop):Prop:=
 match fn.body with
 | some c=>Need (within [] H.length (aS A 0 c)=true) (exec P Γ fn.ntmps A 0 c (qF args 0) H (finH P fn.results.toList R H))
 | none=>False
def finI (P:Program) (rs:List ResultVar):Exit→List (Nat × SV)→List HO→Prop
 | .normal,l,H=>endI l H
 | .ret,l,H=>endI l H
 | _,_,_=>False
where endI (l:List (Nat × SV)) (H:List HO):Prop:=match rs,hget H 0 with
 | [],.yst (some k) n _=>k=n
 | [],.yst none _ _=>True
 | _,_=>False
def Hg (P:Program) (Γ:List Con) (A:Anns) (fn:Func) (args:List SV) (n:Nat) (items:Nat→List SV):Prop:=
 match fn.body with
 | some c=>exec P Γ fn.ntmps A 0 c (qF (.yld 0::args) 0) [.yst (some 0) n items] (finI P fn.results.toList)
 | none=>False
end Go.Eng
end
section
namespace Go.Eng
theorem Zg {p C:Prop} (h:p→C):Giv p C:=⟨h⟩
theorem Zn {p C:Prop} (k:C) (h:p:=by first | omega | (intro _;rfl) | assumption | (simp<;>omega)):Need p C:=⟨h,k⟩
theorem Za {p C B:Prop} (k:C) (h:p:=by omega):Alt (Need p C) B:=.l ⟨h,k⟩
theorem Zb {p C A:Prop} (k:C) (h:p:=by omega):Alt A (Need p C):=.r ⟨h,k⟩
theorem Z0 {C:Nat→Prop} (h:C 0):Ix 0 C:=.zero h
theorem Z1 {C:Nat→Prop} (h:C 1):Ix 1 C:=.one h
theorem Z2 {C:Nat→Prop} (h:C 2):Ix 2 C:=.two h
theorem Zj {j:Nat} {C:Nat→Prop} (h:C j):Ix (j:Int) C:=.nat h
theorem Zk {j:Nat} {C:Nat→Prop} (h:C (j+1)):Ix ((j:Int)+1) C:=.add h
theorem Zy {p A B:Prop} (k:A) (h:p:=by first | omega | assumption):Br p A B:=.mkY h k
theorem Zm {p A B:Prop} (k:B) (h:¬p:=by first | omega | assumption | exact not_not_intro (by assumption)):Br p A B:=.mkN h k
theorem Zr {p A B:Prop} (h:p→A) (k:¬p→B):Br p A B:=⟨h,k⟩
theorem Zl {A B:Prop} (h:A):Own A B:=.l h
theorem Zo {A B:Prop} (h:B):Own A B:=.r h
theorem Zc {p C:Prop} (h:p) (k:C):Chk p C:=⟨h,k⟩
theorem Zf:Fin0:=⟨⟩
theorem Z8 {n:Int} {C:Prop} (k:C) (h:0≤n∧n≤1000000:=by omega):Need (0≤n∧n≤n∧n≤140737488355328∧n*((8:Nat):Int)≤140737488355328) C:=⟨by omega,k⟩
structure Hid (B:Prop):Prop where
 go:B
theorem ZG {A B:Prop} (b:B) (h:Hid B→A:=by (intro hB;(conv=>whnf);(first|refine Za ?_|refine Zb ?_|refine Zn ?_|refine Z0 ?_|refine Z1 ?_|refine Z2 ?_|refine Zj ?_|refine Zk ?_|refine Alt.h ?_|refine Alt.r ?_|refine Zl ?_|refine Z8 ?_|fail);(repeat ((conv=>whnf);first|refine Za ?_|refine Zb ?_|refine Zn ?_|refine Z0 ?_|refine Z1 ?_|refine Z2 ?_|refine Zj ?_|refine Zk ?_|refine Alt.h ?_|refine Alt.r ?_|refine Zl ?_|refine Z8 ?_|fail));exact hB.go)):A:=h ⟨b⟩
theorem ZN {A B:Prop} (b:B) (h:Hid B→A:=by (intro hB;(conv=>whnf);(first|refine Za ?_|refine Zb ?_|refine Zn ?_|refine Z0 ?_|refine Z1 ?_|refine Z2 ?_|refine Zj ?_|refine Zk ?_|refine Alt.h ?_|refine Alt.r ?_|refine Z8 ?_|fail);(repeat ((conv=>whnf);first|refine Za ?_|refine Zb ?_|refine Zn ?_|refine Z0 ?_|refine Z1 ?_|refine Z2 ?_|refine Zj ?_|refine Zk ?_|refine Alt.h ?_|refine Alt.r ?_|refine Z8 ?_|fail));exact hB.go)):A:=h ⟨b⟩
theorem ZP {A B:Prop} (b:B) (h:Hid B→A:=by (intro hB;(conv=>whnf);(first|refine Za ?_|refine Zb ?_|refine Zn ?_|refine Z0 ?_|refine Z1 ?_|refine Z2 ?_|refine Zj ?_|refine Zk ?_|refine Alt.h ?_|refine Alt.r ?_|refine Zo ?_|refine Z8 ?_|fail);(repeat ((conv=>whnf);first|refine Za ?_|refine Zb ?_|refine Zn ?_|refine Z0 ?_|refine Z1 ?_|refine Z2 ?_|refine Zj ?_|refine Zk ?_|refine Alt.h ?_|refine Alt.r ?_|refine Zo ?_|refine Z8 ?_|fail));exact hB.go)):A:=h ⟨b⟩
theorem ZR {A B:Prop} (b:B) (h:Hid B→A:=by (intro hB;(conv=>whnf);(first|refine Za ?_|refine Zb ?_|refine Zn ?_|refine Z0 ?_|refine Z1 ?_|refine Z2 ?_|refine Zj ?_|refine Zk ?_|refine Alt.h ?_|refine Alt.r ?_|refine Zl ?_|refine Zy ?_|refine Zm ?_|refine Z8 ?_|fail);(repeat ((conv=>whnf);first|refine Za ?_|refine Zb ?_|refine Zn ?_|refine Z0 ?_|refine Z1 ?_|refine Z2 ?_|refine Zj ?_|refine Zk ?_|refine Alt.h ?_|refine Alt.r ?_|refine Zl ?_|refine Zy ?_|refine Zm ?_|refine Z8 ?_|fail));exact hB.go)):A:=h ⟨b⟩
theorem ZX {A B:Prop} (b:B) (h:Hid B→A:=by (intro hB;(conv=>whnf);(first|refine Za ?_|refine Zb ?_|refine Zn ?_|refine Z0 ?_|refine Z1 ?_|refine Z2 ?_|refine Zj ?_|refine Zk ?_|refine Alt.h ?_|refine Alt.r ?_|refine Zy ?_|refine Zm ?_|refine Z8 ?_|fail);(repeat ((conv=>whnf);first|refine Za ?_|refine Zb ?_|refine Zn ?_|refine Z0 ?_|refine Z1 ?_|refine Z2 ?_|refine Zj ?_|refine Zk ?_|refine Alt.h ?_|refine Alt.r ?_|refine Zy ?_|refine Zm ?_|refine Z8 ?_|fail));exact hB.go)):A:=h ⟨b⟩
theorem ZH {A B:Prop} (b:B) (h:Hid B→A:=by (intro hB;(conv=>whnf);(first|refine Alt.h ?_|refine Za ?_|refine Zb ?_|refine Zn ?_|refine Z0 ?_|refine Z1 ?_|refine Z2 ?_|refine Zj ?_|refine Zk ?_|refine Alt.r ?_|refine Zl ?_|refine Zy ?_|refine Zm ?_|refine Z8 ?_|fail);(repeat ((conv=>whnf);first|refine Alt.h ?_|refine Za ?_|refine Zb ?_|refine Zn ?_|refine Z0 ?_|refine Z1 ?_|refine Z2 ?_|refine Zj ?_|refine Zk ?_|refine Alt.r ?_|refine Zl ?_|refine Zy ?_|refine Zm ?_|refine Z8 ?_|fail));exact hB.go)):A:=h ⟨b⟩
end Go.Eng
end
section
namespace Go.Eng
abbrev maxL:Nat:=140737488355328
def WV:Value→Prop
 | .int k n=>inK k n
 | _=>True
def Reads (w:World) (ok:Nat→Prop):(t:Ty)→t.T→List Value→Prop
 | .int k,n,cs=>cs= [.int k n]∧inK k n
 | .bool,b,cs=>cs= [.bool b]
 | .str,s,cs=>cs= [.string ⟨s.toArray⟩]∧s.length≤maxL
 | .pair a b,x,cs=>∃c1 c2,cs=c1++c2∧Reads w ok a x.1 c1∧Reads w ok b x.2 c2
 | .slice t,xs,cs=>∃a n c,cs= [.slice a n c]∧n=List.length (α:=t.T) xs∧n≤c∧n≤maxL∧
   (0<n→∃b off,a=some ⟨b,off,none⟩∧ok b∧∀i,i<n→∃es,es.length=t.size∧w.rangeAt b (off+i*t.size) es∧Reads w ok t (List.getD (α:=t.T) xs i t.dflt) es)
theorem Reads.length {w:World} {ok:Nat→Prop} {t:Ty} {x:t.T} {cs:List Value} (h:Reads w ok t x cs):cs.length=t.size:=by
 induction t generalizing cs with
 | int k=>obtain ⟨rfl,_⟩:=h;rfl
 | bool=>cases h;rfl
 | str=>obtain ⟨rfl,_⟩:=h;rfl
 | pair a b iha ihb=>obtain ⟨c1,c2,rfl,h1,h2⟩:=h;simp[Ty.size,iha h1,ihb h2]
 | slice t _=>obtain ⟨a,n,c,rfl,_⟩:=h;rfl
theorem Reads.mono {w w':World} {ok ok':Nat→Prop} (hc:∀a v,ok a.block→w.cell? a=some v→w'.cell? a=some v) (hk:∀b,ok b→ok' b) {t:Ty} {x:t.T} {cs:List Value} (h:Reads w ok t x cs):Reads w' ok' t x cs:=by
 induction t generalizing cs with
 | int k=>exact h
 | bool=>exact h
 | str=>exact h
 | pair a b iha ihb=>obtain ⟨c1,c2,e,h1,h2⟩:=h;exact ⟨c1,c2,e,iha h1,ihb h2⟩
 | slice t ih=>
  obtain ⟨a,n,c,e,hn,hnc,hm,hr⟩:=h
  refine ⟨a,n,c,e,hn,hnc,hm,fun h0=>?_⟩
  obtain ⟨b,off,ha,hok,hi⟩:=hr h0
  refine ⟨b,off,ha,hk b hok,fun i hlt=>?_⟩
  obtain ⟨es,h1,h2,h3⟩:=hi i hlt
  exact ⟨es,h1,fun j v hj=>hc _ v hok (h2 j v hj),ih h3⟩
structure Sub where
 v:Nat
 rows:Nat→Value
 pnd:Value
 snap:Nat→Option Obj
abbrev sub0:Sub:=⟨0,fun _=>.slice none 0 0,.slice none 0 0,fun _=>none⟩
structure Core where
 blk:Option (Nat × Nat)
 len:Nat
 cap:Nat
structure Loc extends Core where
 al:Nat→Prop
 sub:Sub
abbrev mkL (b:Option (Nat × Nat)) (n c:Nat):Loc:=⟨⟨b,n,c⟩,fun _=>False,sub0⟩
def Core.head (L:Core):Value:=.slice (L.blk.map fun p=>⟨p.1,p.2,none⟩) L.len L.cap
def softC (n:Nat) (c:Core) (W:World):Prop:=c.len=n∧n≤maxL∧(n=0∨∃g cur e fz,c.blk=some (g,0)∧n≤c.cap∧W.heap[g]? =some (.cells cur e fz)∧n≤cur.size)
structure Itr where
 on:Bool
 l:Nat
 n0:Nat
 ok:Nat→Prop
 n:Nat
 items:Nat→List SV
 J:Option Nat→(Nat→Prop)→World→Prop
 abides:∀st M W W',J st M W→W'.os=W.os→W'.tape=W.tape→W'.output=W.output→W.heap.size≤W'.heap.size→
  (∀b,b<W.heap.size→¬M b→W'.heap[b]? =W.heap[b]?)→J st (fun b=>M b∨(W.heap.size≤b∧b<W'.heap.size)) W'
 soft:Bool
 sf:Core
 softJ:soft=true→∀k M W,J (some k) M W→softC n sf W
def itr0:Itr:=⟨false,0,0,fun _=>False,0,fun _=>[],fun _ _ _=>True,fun _ _ _ _ h _ _ _ _ _=>h,false,⟨none,0,0⟩,fun h=>by cases h⟩
def Itr.sv (t:Itr) (i:Option Nat) (v:Value):Prop:=t.soft=true∧match i with
 | none=>v=t.sf.head
 | some i=>∃b,t.sf.blk=some (b,0)∧v= .pointer (some ⟨b,i,none⟩)
instance:Inhabited Loc:=⟨mkL none 0 0⟩
structure Env where
 w:World
 ok:Nat→Prop
 has:Nat→Bool
 loc:Nat→Loc
 ver:Nat→Nat
 gho:Nat→Nat→Prop
 ali:Nat→Prop
 itr:Itr
def keyV (k:Int × Int):Value:=.agg ⟨[.int .i64 k.1,.int .i64 k.2]⟩
structure KeysR (ks:List (Int × Int)) (es:List MapEntry):Prop where
 eq:es.map (·.key)=ks.map keyV
 rng:∀k∈ks,inK .i64 k.1∧inK .i64 k.2
 nd:ks.Pairwise (· ≠ ·)
structure QmR (ks:List (Int × Int)) (es:List MapEntry) (c:Nat):Prop where
 keys:KeysR ks es
 born:es.map (·.born)=List.range es.length
 clock:c=es.length
mutual
inductive Rel (E:Env):SV→Value→Prop
 | any (v:Value):Rel E .any v
 | val (v:Value) (h:WV v):Rel E (.val v) v
 | bl (p:Prop) (d:Decidable p):Rel E (.bl p d) (.bool (@decide p d))
 | str (s:List UInt8) (h:s.length≤maxL):Rel E (.str s) (.string ⟨s.toArray⟩)
 | seq (t:Ty) (xs:List t.T) (v:Value) (h:Reads E.w E.ok (.slice t) xs [v]):Rel E (.seq t xs) v
 | lit (es n b off:Nat) (l:List SV) (vs:List Value) (hl:RelL E l vs) (hn:vs.length=n*es) (hok:E.ok b) (hr:E.w.rangeAt b off vs):Rel E (.lit es l) (.slice (some ⟨b,off,none⟩) n n)
 | elem (t:Ty) (xs:List t.T) (i o b off:Nat) (es:List Value) (hi:i<xs.length) (hok:E.ok b) (hr:E.w.rangeAt b off es) (h:Reads E.w E.ok t (xs.getD i t.dflt) es):Rel E (.elem t xs i o) (.pointer (some ⟨b,off+o,none⟩))
 | lelem (l:List SV) (i b off:Nat) (vs:List Value) (hl:RelL E l vs) (hok:E.ok b) (hr:E.w.rangeAt b off vs):Rel E (.lelem l i) (.pointer (some ⟨b,off+i,none⟩))
 | ptr (nm off:Nat) (v:Value) (hn:E.has nm=true) (h:E.ver nm=0→∃b,(E.loc nm).blk=some (b,0)∧v= .pointer (some ⟨b,off,none⟩)):Rel E (.ptr nm off) v
 | ref (nm k:Nat) (v:Value) (hn:E.has nm=true) (h0:0<k) (hk:k≤E.ver nm) (h:k=E.ver nm→v=(E.loc nm).head):Rel E (.ref nm k) v
 | vptr (nm k i z o:Nat) (v:Value) (hn:E.has nm=true) (h0:0<k) (hk:k≤E.ver nm) (h:k=E.ver nm→i<(E.loc nm).len∧∃b off,(E.loc nm).blk=some (b,off)∧v= .pointer (some ⟨b,off+i*z+o,none⟩)):Rel E (.vptr nm k i z o) v
 | wide (nm k:Nat) (v:Value) (hn:E.has nm=true) (h0:0<k) (hk:k≤E.ver nm) (h:k=E.ver nm→∃n,n≤(E.loc nm).cap∧v= .slice ((E.loc nm).blk.map fun p=>⟨p.1,p.2,none⟩) n (E.loc nm).cap):Rel E (.wide nm k) v
 | agg (l:List SV) (vs:List Value) (hl:RelL E l vs):Rel E (.agg l) (.agg ⟨vs⟩)
 | tup (l:List SV) (vs:List Value) (hl:RelL E l vs):Rel E (.tup l) (.tuple ⟨vs⟩)
 | clo (f:FuncId) (a b:List SV) (va vb:List Value) (ha:RelL E a va) (hb:RelL E b vb):Rel E (.clo f a b) (.func (.func f) ⟨va⟩ ⟨vb⟩)
 | yld (l:Nat) (h:E.itr.on=true):Rel E (.yld l) (.func (.yield E.itr.l) #[] #[])
 | mp (nm:Nat) (v:Value) (hn:E.has nm=true) (h:E.ver nm=0→∃b,(E.loc nm).blk=some (b,0)∧v= .map (some b)):Rel E (.mp nm) v
 | sub (nm k s i:Nat) (v:Value) (hn:E.has nm=true) (h0:0<k) (hk:k≤E.ver nm) (hs:k=E.ver nm→s≤(E.loc nm).sub.v) (h:k=E.ver nm→s=(E.loc nm).sub.v→v=(E.loc nm).sub.rows i):Rel E (.sub nm k s i) v
 | subp (nm k s:Nat) (v:Value) (hn:E.has nm=true) (h0:0<k) (hk:k≤E.ver nm) (hs:k=E.ver nm→s≤(E.loc nm).sub.v) (h:k=E.ver nm→s=(E.loc nm).sub.v→v=(E.loc nm).sub.pnd):Rel E (.subp nm k s) v
 | part (nm k i j z:Nat) (v:Value) (hn:E.has nm=true) (h0:0<k) (hk:k≤E.ver nm) (h:k=E.ver nm→i≤j∧j≤(E.loc nm).len∧v= .slice (if (E.loc nm).cap=i then (E.loc nm).blk.map (fun p=>(⟨p.1,p.2,none⟩:Addr)) else ((E.loc nm).blk.map fun p=>(⟨p.1,p.2,none⟩:Addr)).map (·.add (i*z))) (j-i) ((E.loc nm).cap-i)):Rel E (.part nm k i j z) v
 | lim (nm k i z:Nat) (v:Value) (hn:E.has nm=true) (h0:0<k) (hk:k≤E.ver nm) (h:k=E.ver nm→i≤(E.loc nm).len∧v= .slice ((E.loc nm).blk.map fun p=>(⟨p.1,p.2,none⟩:Addr)) i i):Rel E (.lim nm k i z) v
 | ifc (v:Value) (h:v= .nilIface∨∃t x,v= .iface t x):Rel E .ifc v
 | num (k:IntKind) (n:Int) (h:inK k n):Rel E (.num k) (.int k n)
 | wcel (n:Int) (b:Nat) (e:TypeId) (hw:WV (.int .i64 n)) (hok:E.ok b) (hr:E.w.heap[b]? =some (.cells ⟨[.int .i64 n]⟩ e (0,0))):Rel E (.wcel n) (.pointer (some ⟨b,0,none⟩))
 | sft (i:Option Nat) (v:Value) (h:E.itr.on=true) (hv:E.itr.sv i v):Rel E (.sft i) v
 | fmp (ks:List (Int × Int)) (l:List SV) (b c:Nat) (es:List MapEntry) (hok:E.ok b) (hb:E.w.heap[b]? =some (.map ⟨es⟩ c)) (hk:KeysR ks es) (hl:RelL E l (es.map (·.val))):Rel E (.fmp ks l) (.map (some b))
inductive RelL (E:Env):List SV→List Value→Prop
 | nil:RelL E [] []
 | cons (s:SV) (v:Value) (l:List SV) (vs:List Value) (h:Rel E s v) (hl:RelL E l vs):RelL E (s::l) (v::vs)
end
def isBook:Obj→Bool
 | .deferred _=>true
 | .loop _=>true
 | _=>false
structure Ext0 (E E':Env):Prop where
 blk:∀b,E.ok b→E'.w.heap[b]? =E.w.heap[b]?
 ok:∀b,E.ok b→E'.ok b
 num:∀nm,E.has nm=true→E'.has nm=true
 ver:∀nm,E.has nm=true→(E'.ver nm=E.ver nm∧(E'.loc nm).toCore=(E.loc nm).toCore)∨(0<E.ver nm∧E.ver nm<E'.ver nm)
 os:E'.w.os=E.w.os
 tape:E'.w.tape=E.w.tape
 output:E'.w.output=E.w.output
 size:E.w.heap.size≤E'.w.heap.size
 ali:∀b,E'.ali b→E.ali b∨E.w.heap.size≤b
 itr:E'.itr=E.itr
 sub:∀nm,E.has nm=true→E'.ver nm=E.ver nm→(E'.loc nm).sub=(E.loc nm).sub∨(E.loc nm).sub.v<(E'.loc nm).sub.v
structure Ext (E E':Env):Prop extends Ext0 E E' where
 keep:∀(k:Nat) (o:Obj),¬E.ali k→E.w.heap[k]? =some o→isBook o=true→E'.w.heap[k]? =some o
 gho:∀nm b,E.gho nm b→E'.gho nm b∧E'.w.heap[b]? =E.w.heap[b]?
 gho':∀nm b,E.has nm=true→E'.gho nm b→E.gho nm b
theorem Ext0.cell {E E':Env} (x:Ext0 E E'):∀a v,E.ok a.block→E.w.cell? a=some v→E'.w.cell? a=some v:=
 fun a v ho hc=>(World.cell?_of_block (x.blk _ ho)).trans hc
theorem Ext.cell {E E':Env} (x:Ext E E'):∀a v,E.ok a.block→E.w.cell? a=some v→E'.w.cell? a=some v:=x.toExt0.cell
theorem Ext.refl (E:Env):Ext E E:=⟨⟨fun _ _=>rfl,fun _ h=>h,fun _ h=>h,fun _ _=>.inl ⟨rfl,rfl⟩,rfl,rfl,rfl,Nat.le_refl _,fun _ h=>.inl h,rfl,fun _ _ _=>.inl rfl⟩,fun _ _ _ h _=>h,fun _ _ h=>⟨h,rfl⟩,fun _ _ _ h=>h⟩
theorem nW {E E':Env} (x:Ext0 E E') {b off:Nat} {vs:List Value} (hok:E.ok b) (h:E.w.rangeAt b off vs):E'.w.rangeAt b off vs:=fun j v hj=>x.cell _ v hok (h j v hj)
def isCM:Obj→Bool
 | .cells _ _ _=>true
 | .map _ _=>true
 | _=>false
def KeepC (E E':Env):Prop:=∀b o,E.ok b→E.w.heap[b]? =some o→isCM o=true→E'.w.heap[b]? =some o
theorem Ok (l:List SV) (off:Nat):(∃n,frcV l off= .wcel n∧l= [.val (.int .i64 n)]∧off=0)∨frcV l off= .lelem l off:=by
 unfold frcV
 split
 ·exact .inl ⟨_,rfl,rfl,rfl⟩
 ·exact .inr rfl
theorem Hh {E:Env} {l:List SV} {off b:Nat} {vs:List Value} {e:TypeId} (hl:RelL E l vs) (hok:E.ok b) (hr:E.w.heap[b]? =some (.cells ⟨vs⟩ e (0,0))):Rel E (frcV l off) (.pointer (some ⟨b,off,none⟩)):=by
 rcases Ok l off with ⟨n,e1,rfl,rfl⟩ | e1
 ·rw[e1]
  cases hl with
  | cons _ v _ vs hv hn=>
   cases hn
   cases hv with
   | val _ hw=>exact .wcel n b e hw hok hr
 ·rw[e1]
  have:=Rel.lelem (E:=E) l off b 0 vs hl hok (fun j v hj=>by simp only[World.cell?,hr];simpa using hj)
  rwa [Nat.zero_add] at this
theorem KeepC.cell {E E':Env} (h:KeepC E E'):∀a v,E.ok a.block→E.w.cell? a=some v→E'.w.cell? a=some v:=by
 intro a v ho hc
 unfold World.cell? at hc ⊢
 split at hc
 ·rename_i c e f hb
  rw[h _ _ ho hb rfl];exact hc
 ·cases hc
theorem Ext0.keepC {E E':Env} (x:Ext0 E E'):KeepC E E':=fun b _ hb h _=>(x.blk b hb).trans h
mutual
theorem Rel.ext0 {E E':Env} (x:Ext0 E E') {s:SV} {v:Value} (h:Rel E s v):Rel E' s v:=by
 cases h with
 | any=>exact .any v
 | val _ h=>exact .val v h
 | bl p d=>exact .bl p d
 | str s h=>exact .str s h
 | seq t xs _ h=>exact .seq t xs v (h.mono x.cell x.ok)
 | lit es n b off l vs hl hn hok hr=>exact .lit es n b off l vs (hl.ext0 x) hn (x.ok _ hok) (nW x hok hr)
 | elem t xs i o b off es hi hok hr h=>exact .elem t xs i o b off es hi (x.ok _ hok) (nW x hok hr) (h.mono x.cell x.ok)
 | lelem l i b off vs hl hok hr=>exact .lelem l i b off vs (hl.ext0 x) (x.ok _ hok) (nW x hok hr)
 | ptr nm off _ hn h=>
  refine .ptr nm off v (x.num nm hn) fun h0=>?_
  rcases x.ver nm hn with ⟨e1,e2⟩ | ⟨e1,e2⟩
  ·rw[e1] at h0;obtain ⟨b,hb,hv⟩:=h h0;exact ⟨b,by rw[e2];exact hb,hv⟩
  ·omega
 | ref nm k _ hn h0 hk h=>
  rcases x.ver nm hn with ⟨e1,e2⟩ | ⟨e1,e2⟩
  ·exact .ref nm k v (x.num nm hn) h0 (by omega) fun e=>by rw[e2];exact h (by omega)
  ·exact .ref nm k v (x.num nm hn) h0 (by omega) fun e=>by omega
 | vptr nm k i z o _ hn h0 hk h=>
  rcases x.ver nm hn with ⟨e1,e2⟩ | ⟨e1,e2⟩
  ·exact .vptr nm k i z o v (x.num nm hn) h0 (by omega) fun e=>by rw[e2];exact h (by omega)
  ·exact .vptr nm k i z o v (x.num nm hn) h0 (by omega) fun e=>by omega
 | wide nm k _ hn h0 hk h=>
  rcases x.ver nm hn with ⟨e1,e2⟩ | ⟨e1,e2⟩
  ·exact .wide nm k v (x.num nm hn) h0 (by omega) fun e=>by rw[e2];exact h (by omega)
  ·exact .wide nm k v (x.num nm hn) h0 (by omega) fun e=>by omega
 | agg l vs hl=>exact .agg l vs (hl.ext0 x)
 | tup l vs hl=>exact .tup l vs (hl.ext0 x)
 | clo f a b va vb ha hb=>exact .clo f a b va vb (ha.ext0 x) (hb.ext0 x)
 | yld l h=>rw[← x.itr] at h ⊢;exact .yld l h
 | sft i _ h hv=>rw[← x.itr] at h hv;exact .sft i v h hv
 | mp nm _ hn h=>
  refine .mp nm v (x.num nm hn) fun h0=>?_
  rcases x.ver nm hn with ⟨e1,e2⟩ | ⟨e1,e2⟩
  ·rw[e1] at h0;obtain ⟨b,hb,hv⟩:=h h0;exact ⟨b,by rw[e2];exact hb,hv⟩
  ·omega
 | sub nm k s i _ hn h0 hk hs h=>
  rcases x.ver nm hn with ⟨e1,e2⟩ | ⟨e1,e2⟩
  ·have e3:=x.sub nm hn e1
   refine .sub nm k s i v (x.num nm hn) h0 (by omega) (fun e=>?_) (fun e e4=>?_)
   ·have:=hs (by omega)
    rcases e3 with e3 | e3
    ·rw[e3];exact this
    ·omega
   ·have h5:=hs (by omega)
    rcases e3 with e3 | e3
    ·rw[e3] at e4 ⊢;exact h (by omega) e4
    ·omega
  ·exact .sub nm k s i v (x.num nm hn) h0 (by omega) (fun e=>by omega) (fun e=>by omega)
 | part nm k i j z _ hn h0 hk h=>
  rcases x.ver nm hn with ⟨e1,e2⟩ | ⟨e1,e2⟩
  ·exact .part nm k i j z v (x.num nm hn) h0 (by omega) fun e=>by rw[e2];exact h (by omega)
  ·exact .part nm k i j z v (x.num nm hn) h0 (by omega) fun e=>by omega
 | lim nm k i z _ hn h0 hk h=>
  rcases x.ver nm hn with ⟨e1,e2⟩ | ⟨e1,e2⟩
  ·exact .lim nm k i z v (x.num nm hn) h0 (by omega) fun e=>by rw[e2];exact h (by omega)
  ·exact .lim nm k i z v (x.num nm hn) h0 (by omega) fun e=>by omega
 | ifc _ h=>exact .ifc v h
 | num k n h=>exact .num k n h
 | wcel n b e hw hok hr=>exact .wcel n b e hw (x.ok _ hok) ((x.blk _ hok).trans hr)
 | fmp ks l b c es hok hb hk hl=>exact .fmp ks l b c es (x.ok _ hok) ((x.blk _ hok).trans hb) hk (hl.ext0 x)
 | subp nm k s _ hn h0 hk hs h=>
  rcases x.ver nm hn with ⟨e1,e2⟩ | ⟨e1,e2⟩
  ·have e3:=x.sub nm hn e1
   refine .subp nm k s v (x.num nm hn) h0 (by omega) (fun e=>?_) (fun e e4=>?_)
   ·have:=hs (by omega)
    rcases e3 with e3 | e3
    ·rw[e3];exact this
    ·omega
   ·have h5:=hs (by omega)
    rcases e3 with e3 | e3
    ·rw[e3] at e4 ⊢;exact h (by omega) e4
    ·omega
  ·exact .subp nm k s v (x.num nm hn) h0 (by omega) (fun e=>by omega) (fun e=>by omega)
theorem RelL.ext0 {E E':Env} (x:Ext0 E E') {l:List SV} {vs:List Value} (h:RelL E l vs):RelL E' l vs:=by
 cases h with
 | nil=>exact .nil
 | cons s v l vs h hl=>exact .cons s v l vs (h.ext0 x) (hl.ext0 x)
end
theorem Rel.ext {E E':Env} (x:Ext E E') {s:SV} {v:Value} (h:Rel E s v):Rel E' s v:=h.ext0 x.toExt0
theorem RelL.ext {E E':Env} (x:Ext E E') {l:List SV} {vs:List Value} (h:RelL E l vs):RelL E' l vs:=h.ext0 x.toExt0
theorem RelL.length {E:Env}:∀ {l:List SV} {vs:List Value},RelL E l vs→l.length=vs.length
 | _,_,.nil=>rfl
 | _,_,.cons _ _ _ _ _ hl=>by simp[hl.length]
theorem RelL.get {E:Env}:∀ {l:List SV} {vs:List Value},RelL E l vs→∀i,i<l.length→Rel E (l.getD i .any) (vs.getD i undef)
 | _,_,.cons _ _ _ _ h _,0,_=>h
 | _,_,.cons _ _ l vs _ hl,i+1,hi=>by
  have:=hl.get i (by simpa using hi)
  simpa using this
theorem RelL.take {E:Env}:∀ {l:List SV} {vs:List Value},RelL E l vs→∀n,RelL E (l.take n) (vs.take n)
 | _,_,.nil,n=>by simp;exact .nil
 | _,_,.cons s v l vs h hl,0=>by simp;exact .nil
 | _,_,.cons s v l vs h hl,n+1=>by simp;exact .cons _ _ _ _ h (hl.take n)
theorem RelL.drop {E:Env}:∀ {l:List SV} {vs:List Value},RelL E l vs→∀n,RelL E (l.drop n) (vs.drop n)
 | _,_,.nil,n=>by simp;exact .nil
 | _,_,.cons s v l vs h hl,0=>by simp;exact .cons _ _ _ _ h hl
 | _,_,.cons s v l vs h hl,n+1=>by simp;exact hl.drop n
theorem RelL.append {E:Env}:∀ {l:List SV} {vs:List Value},RelL E l vs→∀ {l' vs'},RelL E l' vs'→RelL E (l++l') (vs++vs')
 | _,_,.nil,_,_,h'=>h'
 | _,_,.cons s v l vs h hl,_,_,h'=>.cons _ _ _ _ h (hl.append h')
theorem RelL.set {E:Env}:∀ {l:List SV} {vs:List Value},RelL E l vs→∀(i:Nat) {s v},Rel E s v→RelL E (l.set i s) (vs.set i v)
 | _,_,.nil,_,_,_,_=>.nil
 | _,_,.cons _ _ _ _ _ hl,0,_,_,h'=>.cons _ _ _ _ h' hl
 | _,_,.cons _ _ _ _ h hl,i+1,_,_,h'=>.cons _ _ _ _ h (hl.set i h')
def dN (l:List Value) (off:Nat):List Value→List Value
 | []=>l
 | v::r=>dN (l.set off v) (off+1) r
theorem RelL.setCells {E:Env} {l:List SV} {vs:List Value} (h:RelL E l vs):∀ {r:List SV} {rv:List Value},RelL E r rv→∀off,RelL E (Eng.setCells l off r) (dN vs off rv)
 | _,_,.nil,_=>h
 | _,_,.cons _ _ _ _ h' hl,off=>(h.set off h').setCells hl (off+1)
theorem mC (r:List Value):∀(l:List Value) (off:Nat),(dN l off r).length=l.length:=by
 induction r with
 | nil=>intro l off;rfl
 | cons v r ih=>intro l off;simp only[dN];rw[ih];simp
theorem pE (r:List Value):∀(l:List Value) (off i:Nat),off+r.length≤l.length→(dN l off r)[i]? =if off≤i∧i<off+r.length then r[i-off]? else l[i]? :=by
 induction r with
 | nil=>intro l off i h;simp[dN];omega
 | cons v r ih=>
  intro l off i h
  simp only[dN,List.length_cons] at h ⊢
  rw[ih _ _ _ (by simp;omega),List.getElem?_set]
  by_cases h1:i=off
  ·subst h1
   rw[if_neg (by omega),if_pos rfl,if_pos (by omega),if_pos (by omega)]
   simp
  ·by_cases h2:off+1≤i∧i<off+1+r.length
   ·rw[if_pos h2,if_pos (by omega)]
    obtain ⟨k,rfl⟩:∃k,i=off+1+k:=⟨i-(off+1),by omega⟩
    have e1:off+1+k-(off+1)=k:=by omega
    have e2:off+1+k-off=k+1:=by omega
    rw[e1,e2];rfl
   ·rw[if_neg h2]
    have:¬off=i:=fun e=>h1 e.symm
    rw[if_neg this,if_neg (by omega)]
theorem vY (r:List SV):∀(l:List SV) (off:Nat),(setCells l off r).length=l.length:=by
 induction r with
 | nil=>intro l off;rfl
 | cons v r ih=>intro l off;simp only[setCells];rw[ih];simp
theorem Reads.enc {E:Env} {t:Ty} {x:t.T} {cs:List Value} (h:Reads E.w E.ok t x cs):RelL E (enc t x) cs:=by
 induction t generalizing cs with
 | int k=>obtain ⟨rfl,hk⟩:=h;exact .cons _ _ _ _ (.val _ hk) .nil
 | bool=>cases h;exact .cons _ _ _ _ (by cases x<;>exact .bl _ _) .nil
 | str=>obtain ⟨rfl,hk⟩:=h;exact .cons _ _ _ _ (.str _ hk) .nil
 | pair a b iha ihb=>obtain ⟨c1,c2,rfl,h1,h2⟩:=h;exact (iha h1).append (ihb h2)
 | slice t _=>
  obtain ⟨a,n,c,rfl,hr⟩:=h
  exact .cons _ _ _ _ (.seq t x _ ⟨a,n,c,rfl,hr⟩) .nil
theorem Reads.giv {w:World} {ok:Nat→Prop} {t:Ty} {x:t.T} {cs:List Value} (h:Reads w ok t x cs) {C:Prop} (g:givT t x C):C:=by
 induction t generalizing cs C with
 | int k=>exact Nm g h.2
 | bool=>exact g
 | str=>exact g
 | pair a b iha ihb=>obtain ⟨c1,c2,rfl,h1,h2⟩:=h;exact ihb h2 (iha h1 g)
 | slice t _=>obtain ⟨a,n,c,rfl,hn,hc,hm,_⟩:=h;have hm':n≤140737488355328:=hm;exact g.go (by omega)
theorem RelL.one {E:Env} {s:SV} {vs:List Value} (h:RelL E [s] vs):∃v,vs= [v]∧Rel E s v:=by
 cases h with
 | cons _ v _ _ h1 h2=>cases h2;exact ⟨v,rfl,h1⟩
theorem Hi {l:List SV} {n:Int} (h:Ky l=some n):∃k,l= [.val (.int k n)]:=by
 unfold Ky at h
 split at h
 ·cases h;exact ⟨_,rfl⟩
 ·cases h
theorem Hj {l:List SV} {n:List UInt8} (h:Kz l=some n):l= [.str n]:=by
 unfold Kz at h
 split at h
 ·cases h;rfl
 ·cases h
theorem Hk {k k':IntKind} {n:Int} (h:La k [.val (.int k' n)]=true):k=k':=by simpa [La] using h
theorem pF (w:World) (ok:Nat→Prop) (t:Ty):Reads w ok (.slice t) [] [.slice none 0 0]:=⟨none,0,0,rfl,rfl,Nat.le_refl _,Nat.zero_le _,fun h=>absurd h (Nat.lt_irrefl _)⟩
theorem lD {E:Env} {t:Ty} {l:List SV} {cs:List Value} {x:t.T} (h:RelL E l cs) (hd:dec t l=some x) (hk:iF t l=true):Reads E.w E.ok t x cs:=by
 induction t generalizing l cs with
 | int k=>
  obtain ⟨k',rfl⟩:=Hi hd
  obtain rfl:=Hk hk
  obtain ⟨v,rfl,hv⟩:=h.one
  cases hv with
  | val _ hw=>exact ⟨rfl,hw⟩
 | bool=>
  simp only[dec] at hd
  unfold Nr at hd
  split at hd
  ·cases hd;obtain ⟨v,rfl,hv⟩:=h.one;cases hv;rfl
  ·cases hd;obtain ⟨v,rfl,hv⟩:=h.one;cases hv;rfl
  ·cases hd
 | str=>
  obtain rfl:=Hj hd
  obtain ⟨v,rfl,hv⟩:=h.one
  cases hv with
  | str _ hw=>exact ⟨rfl,hw⟩
 | slice t _=>
  simp only[dec] at hd
  unfold Gp at hd
  split at hd
  ·rename_i t' xs
   split at hd
   ·rename_i e
    subst e
    cases hd
    obtain ⟨v,rfl,hv⟩:=h.one
    cases hv with
    | seq _ _ _ hr=>exact hr
   ·cases hd
  ·cases hd
   obtain ⟨v,rfl,hv⟩:=h.one
   cases hv
   exact pF _ _ _
  ·cases hd
 | pair a b iha ihb=>
  simp only[dec] at hd
  simp only[iF,Bool.and_eq_true] at hk
  split at hd
  ·rename_i x1 x2 e1 e2
   cases hd
   exact ⟨cs.take a.size,cs.drop a.size,by simp,iha (h.take _) e1 hk.1,ihb (h.drop _) e2 hk.2⟩
  ·cases hd
theorem Reads.one {w:World} {ok:Nat→Prop} {t:Ty} {x:t.T} {cs:List Value} (h:Reads w ok t x cs):∀u∈cs,u.oneCell'=true:=by
 induction t generalizing cs with
 | int k=>obtain ⟨rfl,_⟩:=h;simp[Value.oneCell']
 | bool=>cases h;simp[Value.oneCell']
 | str=>obtain ⟨rfl,_⟩:=h;simp[Value.oneCell']
 | slice t _=>obtain ⟨a,n,c,rfl,_⟩:=h;simp[Value.oneCell']
 | pair a b iha ihb=>
  obtain ⟨c1,c2,rfl,h1,h2⟩:=h
  intro u hu
  rcases List.mem_append.1 hu with h | h
  ·exact iha h1 u h
  ·exact ihb h2 u h
def _root_.Go.World.ownsR (w:World) (base:Nat) (e:TypeId) (size:Nat) (v:Value) (n:Nat) (xs:List Value):Prop:=
 xs.length=n*size∧((v= .slice none 0 0∧n=0)∨∃(g cap:Nat) (cur:Array Value),v= .slice (some ⟨g,0,none⟩) n cap∧base≤g∧w.heap[g]? =some (.cells cur e (0,0))∧n≤cap∧cap≤maxLen∧cap*size≤cur.size∧cur.toList.take (n*size)=xs)
theorem aO {w:World} {base:Nat} {e:TypeId} {size n:Nat} {L:Loc} {vs:List Value} (h:w.ownsR base e size L.head n vs):
  (L.blk=none∧L.cap=0∧L.len=0∧n=0)∨∃g cur,L.blk=some (g,0)∧L.len=n∧w.heap[g]? =some (.cells cur e (0,0))∧n≤L.cap∧L.cap≤maxLen∧L.cap*size≤cur.size∧cur.toList.take (n*size)=vs:=by
 obtain ⟨_,⟨h1,h2⟩ | ⟨g,cap,cur,h1,_,h3,h4,h5,h6,h7⟩⟩:=h
 ·left
  simp only[Core.head,Value.slice.injEq,Option.map_eq_none_iff] at h1
  exact ⟨h1.1,h1.2.2,h1.2.1,h2⟩
 ·right
  simp only[Core.head,Value.slice.injEq] at h1
  obtain ⟨e1,e2,e3⟩:=h1
  cases hb:L.blk with
  | none=>rw[hb] at e1;cases e1
  | some p=>
   rw[hb] at e1
   simp at e1
   obtain ⟨e4,e5⟩:=e1
   refine ⟨g,cur,?_,e2,h3,by omega,by omega,by rw[e3];exact h6,h7⟩
   cases p;simp_all
structure Ctx where
 w0:World
 ok0:Nat→Prop
 mine:Nat→Prop
 apart:∀b,ok0 b→¬mine b
 below:∀b,ok0 b→b<w0.heap.size
 itr:Itr
 low:itr.n0≤w0.heap.size
def Owns (L:Loc) (o:HO) (b:Nat):Prop:=
 match o with
 | .cells _ _=>L.blk.map (·.1)=some b
 | .vec _ _ _ _=>L.blk.map (·.1)=some b
 | .map _ _ _=>L.blk.map (·.1)=some b
 | .qm _ _=>L.blk.map (·.1)=some b
 | .mit _ _ _ _=>L.blk.map (·.1)=some b
 | .vv _ _ _ _ _ _ _=>L.blk.map (·.1)=some b∨L.al b
 | .gone=>L.al b
 | .yst _ _ _=>L.al b
 | .lnt _ _ _=>∃o,L.sub.snap b=some o
 | _=>False
def Owned (H:List HO) (loc:Nat→Loc) (b:Nat):Prop:=∃nm o,H[nm]? =some o∧Owns (loc nm) o b
def okN (G:Ctx) (H:List HO) (loc:Nat→Loc) (w:World) (b:Nat):Prop:=(G.ok0 b∨G.mine b∨G.w0.heap.size≤b)∧b<w.heap.size∧¬Owned H loc b
def ghoN (H:List HO) (loc:Nat→Loc) (nm b:Nat):Prop:=H[nm]? =some .gone∧(loc nm).al b
def aliN (H:List HO) (loc:Nat→Loc) (b:Nat):Prop:=∃nm st n it,H[nm]? =some (.yst st n it)∧(loc nm).al b
def envOf (G:Ctx) (H:List HO) (loc:Nat→Loc) (ver:Nat→Nat) (w:World):Env:=⟨w,okN G H loc w,hasB H,loc,ver,ghoN H loc,aliN H loc,G.itr⟩
def EntsR (w:World) (ok:Nat→Prop) (k:IntKind) (t:Ty):List (Nat × Int × t.T)→List MapEntry→Prop
 | [],[]=>True
 | x::r,e::r'=>(e.born=x.1∧e.key= .int k x.2.1∧inK k x.2.1∧Reads w ok t x.2.2 [e.val])∧EntsR w ok k t r r'
 | _,_=>False
def RowAt (E:Env) (al:Nat→Prop) (t:Ty) (ei:TypeId) (h:Value) (xs:List t.T):Prop:=
 ∃vs,E.w.ownsR 0 ei t.size h xs.length vs∧(∀b,h.ownBlock=some b→al b)∧∀i,i<xs.length→Reads E.w E.ok t (List.getD (α:=t.T) xs i t.dflt) ((vs.drop (i*t.size)).take t.size)
structure Rows (E:Env) (L:Loc) (t:Ty) (ei:TypeId) (xss:List (List t.T)) (pend:Option (Nat × List t.T)):Prop where
 flat:t.flat=true
 row:∀i,i<xss.length→(∀j ys,pend=some (j,ys)→i≠j)→RowAt E L.al t ei (L.sub.rows i) (xss.getD i [])
 apart:∀i j,i<xss.length→j<xss.length→(∀k ys,pend=some (k,ys)→i≠k∧j≠k)→i≠j→∀b,(L.sub.rows i).ownBlock=some b→(L.sub.rows j).ownBlock≠some b
 grown:∀j ys,pend=some (j,ys)→j<xss.length∧RowAt E L.al t ei L.sub.pnd ys∧∀i,i<xss.length→i≠j→∀b,L.sub.pnd.ownBlock=some b→(L.sub.rows i).ownBlock≠some b
 short:∀i,i<xss.length→(xss.getD i []).length≤maxL
def OSat (E:Env) (L:Loc) (v:Nat):HO→Prop
 | .dead=>True
 | .res=>True
 | .cells l e=>v=0∧∃b vs,L.blk=some (b,0)∧E.w.heap[b]? =some (.cells ⟨vs⟩ e (0,0))∧RelL E l vs
 | .vec k t xs e=>v=k∧0<k∧L.len=List.length (α:=t.T) xs∧L.len≤maxL∧
   ∃vs,E.w.ownsR 0 e t.size L.head L.len vs∧∀i,i<L.len→Reads E.w E.ok t (List.getD (α:=t.T) xs i t.dflt) ((vs.drop (i*t.size)).take t.size)
 | .fro k t xs=>v=k∧0<k∧Reads E.w E.ok (.slice t) xs [L.head]
 | .map k t m=>v=0∧m.Wf∧m.es.length≤maxL∧∃b es,L.blk=some (b,0)∧E.w.heap[b]? =some (.map ⟨es⟩ m.clock)∧EntsR E.w E.ok k t m.es es
 | .qm ks l=>v=0∧ks.length≤maxL∧bare.bareL l=true∧∃b es c,L.blk=some (b,0)∧E.w.heap[b]? =some (.map ⟨es⟩ c)∧QmR ks es c∧RelL E l (es.map (·.val))
 | .frm ks l=>v=0∧bare.bareL l=true∧∃b es c,L.blk=some (b,0)∧E.ok b∧E.w.heap[b]? =some (.map ⟨es⟩ c)∧KeysR ks es∧RelL E l (es.map (·.val))
 | .mit m since seen c0=>v=0∧E.has m=true∧∃r bm,L.blk=some (r,0)∧E.w.heap[r]? =some (.mapIter (some bm) since ⟨seen⟩ c0)∧(E.ver m=0→(E.loc m).blk=some (bm,0))
 | .vv k s t xss pend eo ei=>v=k∧0<k∧L.sub.v=s∧L.len=xss.length∧L.len≤maxL∧
   (∃vs,E.w.ownsR 0 eo 1 L.head L.len vs∧∀i,i<L.len→vs[i]? =some (L.sub.rows i))∧(∀b,L.al b→b<E.w.heap.size∧L.blk.map (·.1)≠some b∧∃c e,E.w.heap[b]? =some (.cells c e (0,0)))∧Rows E L t ei xss pend
 | .frc l=>v=0∧∃b vs e,L.blk=some (b,0)∧E.ok b∧E.w.heap[b]? =some (.cells ⟨vs⟩ e (0,0))∧RelL E l vs
 | .gone=>0<v∧∀b,L.al b→b<E.w.heap.size
 | .lnt k t xs=>v=k∧0<k∧L.sub.v=0∧(∀b o,L.sub.snap b=some o→isBook o=false∧E.w.heap[b]? =some o)∧Reads E.w (fun b=>∃o,L.sub.snap b=some o) (.slice t) xs [L.sub.pnd]
 | .yst st n it=>0<v∧(∀b,L.al b→b<E.w.heap.size)∧E.itr.n0≤E.w.heap.size∧n=E.itr.n∧it=E.itr.items∧
   (∀b,b<E.itr.n0→¬L.al b→E.itr.ok b∧E.ok b)∧
   E.itr.J st (fun b=>E.itr.n0≤b∧b<E.w.heap.size∧¬L.al b) E.w
structure Inv (G:Ctx) (H:List HO) (loc:Nat→Loc) (ver:Nat→Nat) (w:World):Prop where
 size:G.w0.heap.size≤w.heap.size
 os:w.os=G.w0.os
 tape:w.tape=G.w0.tape
 output:w.output=G.w0.output
 frame:∀b,b<G.w0.heap.size→¬G.mine b→w.heap[b]? =G.w0.heap[b]?
 objs:∀nm o,H[nm]? =some o→OSat (envOf G H loc ver w) (loc nm) (ver nm) o
 own:∀b,Owned H loc b→G.mine b∨G.w0.heap.size≤b
 sep:∀nm nm' o o' b,H[nm]? =some o→H[nm']? =some o'→Owns (loc nm) o b→Owns (loc nm') o' b→nm=nm'
end Go.Eng
end
section
namespace Go.Eng
open Go.RowKit
theorem OSat.block {E:Env} {L:Loc} {v:Nat} {o:HO} {b:Nat} (h:OSat E L v o) (hb:Owns L o b):b<E.w.heap.size:=by
 cases o with
 | dead=>cases hb
 | fro=>cases hb
 | res=>cases hb
 | frc=>cases hb
 | frm=>cases hb
 | qm ks l=>
  obtain ⟨_,_,_,b',es,c,h1,h2,_⟩:=h
  simp[Owns,h1] at hb;subst hb
  exact (Array.getElem?_eq_some_iff.1 h2).1
 | gone=>exact h.2 b hb
 | lnt k t xs=>
  obtain ⟨o,ho⟩:=hb
  exact (Array.getElem?_eq_some_iff.1 (h.2.2.2.1 b o ho).2).1
 | yst st n it=>exact h.2.1 b hb
 | cells l e=>
  obtain ⟨_,b',vs,h1,h2,_⟩:=h
  simp[Owns,h1] at hb;subst hb
  exact (Array.getElem?_eq_some_iff.1 h2).1
 | map k t m=>
  obtain ⟨_,_,_,b',es,h1,h2,_⟩:=h
  simp[Owns,h1] at hb;subst hb
  exact (Array.getElem?_eq_some_iff.1 h2).1
 | mit m s l c=>
  obtain ⟨_,_,b',bm,h1,h2,_⟩:=h
  simp[Owns,h1] at hb;subst hb
  exact (Array.getElem?_eq_some_iff.1 h2).1
 | vv k s t xss pend eo ei=>
  obtain ⟨_,_,_,_,_,⟨vs,h2,_⟩,h3,_⟩:=h
  rcases hb with hb | hb
  ·rcases aO h2 with ⟨h3,_⟩ | ⟨g,cur,h3,_,h4,_⟩
   ·simp[h3] at hb
   ·simp[h3] at hb;subst hb
    exact (Array.getElem?_eq_some_iff.1 h4).1
  ·exact (h3 b hb).1
 | vec k t xs e=>
  obtain ⟨_,_,_,_,vs,h2,_⟩:=h
  rcases aO h2 with ⟨h3,_⟩ | ⟨g,cur,h3,_,h4,_⟩
  ·simp[Owns,h3] at hb
  ·simp[Owns,h3] at hb;subst hb
   exact (Array.getElem?_eq_some_iff.1 h4).1
theorem OSat.isBook {E:Env} {L:Loc} {v:Nat} {o:HO} {b:Nat} (h:OSat E L v o) (hb:Owns L o b) (h1:o≠ .gone) (h2:∀st n it,o≠ .yst st n it) {x:Obj} (hx:E.w.heap[b]? =some x):isBook x=false:=by
 cases o with
 | dead=>cases hb
 | fro=>cases hb
 | res=>cases hb
 | frc=>cases hb
 | gone=>exact (h1 rfl).elim
 | lnt k t xs=>
  obtain ⟨o,ho⟩:=hb
  have h3:=h.2.2.2.1 b o ho
  rw[hx] at h3
  obtain ⟨h4,h5⟩:=h3
  cases h5;exact h4
 | yst st n it=>exact (h2 _ _ _ rfl).elim
 | cells l e=>
  obtain ⟨_,b',vs,h1,h2,_⟩:=h
  simp[Owns,h1] at hb;subst hb
  rw[h2] at hx;cases hx;rfl
 | frm=>cases hb
 | qm ks l=>
  obtain ⟨_,_,_,b',es,c,h1,h2,_⟩:=h
  simp[Owns,h1] at hb;subst hb
  rw[h2] at hx;cases hx;rfl
 | map k t m=>
  obtain ⟨_,_,_,b',es,h1,h2,_⟩:=h
  simp[Owns,h1] at hb;subst hb
  rw[h2] at hx;cases hx;rfl
 | mit m s l c=>
  obtain ⟨_,_,b',bm,h1,h2,_⟩:=h
  simp[Owns,h1] at hb;subst hb
  rw[h2] at hx;cases hx;rfl
 | vv k s t xss pend eo ei=>
  obtain ⟨_,_,_,_,_,⟨vs,h2,_⟩,h3,_⟩:=h
  rcases hb with hb | hb
  ·rcases aO h2 with ⟨h3,_⟩ | ⟨g,cur,h3,_,h4,_⟩
   ·simp[h3] at hb
   ·simp[h3] at hb;subst hb
    rw[h4] at hx;cases hx;rfl
  ·obtain ⟨_,_,c,e,h4⟩:=h3 b hb
   rw[h4] at hx;cases hx;rfl
 | vec k t xs e=>
  obtain ⟨_,_,_,_,vs,h2,_⟩:=h
  rcases aO h2 with ⟨h3,_⟩ | ⟨g,cur,h3,_,h4,_⟩
  ·simp[Owns,h3] at hb
  ·simp[Owns,h3] at hb;subst hb
   rw[h4] at hx;cases hx;rfl
theorem EntsR.mono {w w':World} {ok ok':Nat→Prop} (hc:∀a v,ok a.block→w.cell? a=some v→w'.cell? a=some v) (hk:∀b,ok b→ok' b) {k:IntKind} {t:Ty}:∀ {xs:List (Nat × Int × t.T)} {es:List MapEntry},EntsR w ok k t xs es→EntsR w' ok' k t xs es
 | [],[],_=>trivial
 | _:: _,_:: _,h=>⟨⟨h.1.1,h.1.2.1,h.1.2.2.1,h.1.2.2.2.mono hc hk⟩,EntsR.mono hc hk h.2⟩
theorem xL {w w':World} {base:Nat} {e:TypeId} {size n:Nat} {v:Value} {vs:List Value} (h:w.ownsR base e size v n vs) (hs:∀b,v.ownBlock=some b→w'.heap[b]? =w.heap[b]?):w'.ownsR base e size v n vs:=by
 refine ⟨h.1,?_⟩
 rcases h.2 with h5 | ⟨g,cap,cur,h5,h6,h7,h8⟩
 ·exact .inl h5
 ·refine .inr ⟨g,cap,cur,h5,h6,?_,h8⟩
  rw[hs g (by rw[h5];rfl)];exact h7
theorem RowAt.ext {E E':Env} (x:Ext0 E E') {al:Nat→Prop} {t:Ty} {ei:TypeId} {h:Value} {xs:List t.T} (hr:RowAt E al t ei h xs) (hs:∀b,al b→E'.w.heap[b]? =E.w.heap[b]?):RowAt E' al t ei h xs:=by
 obtain ⟨vs,h1,h2,h3⟩:=hr
 exact ⟨vs,xL h1 fun b hb=>hs b (h2 b hb),h2,fun i hi=>(h3 i hi).mono x.cell x.ok⟩
theorem Rows.ext {E E':Env} (x:Ext0 E E') {L:Loc} {t:Ty} {ei:TypeId} {xss:List (List t.T)} {pend:Option (Nat × List t.T)} (h:Rows E L t ei xss pend) (hs:∀b,L.al b→E'.w.heap[b]? =E.w.heap[b]?):Rows E' L t ei xss pend:=
 ⟨h.flat,fun i hi hp=>(h.row i hi hp).ext x hs,h.apart,fun j ys hp=>by obtain ⟨h1,h2,h3⟩:=h.grown j ys hp;exact ⟨h1,h2.ext x hs,h3⟩,h.short⟩
theorem OSat.ext {E E':Env} (x:Ext0 E E') {L:Loc} {v:Nat} {o:HO} (h:OSat E L v o) (hs:∀b,Owns L o b→E'.w.heap[b]? =E.w.heap[b]?):OSat E' L v o:=by
 cases o with
 | dead=>trivial
 | res=>trivial
 | fro k t xs=>obtain ⟨h1,h2,h3⟩:=h;exact ⟨h1,h2,h3.mono x.cell x.ok⟩
 | frc l=>obtain ⟨h1,b,vs,e,h2,h3,h4,h5⟩:=h;exact ⟨h1,b,vs,e,h2,x.ok b h3,(x.blk _ h3).trans h4,h5.ext0 x⟩
 | gone=>exact ⟨h.1,fun b hb=>Nat.lt_of_lt_of_le (h.2 b hb) x.size⟩
 | lnt k t xs=>
  obtain ⟨h1,h2,h3,h4,h5⟩:=h
  refine ⟨h1,h2,h3,fun b o hb=>⟨(h4 b o hb).1,(hs b ⟨o,hb⟩).trans (h4 b o hb).2⟩,h5.mono (fun a v ha hv=>?_) fun _ h=>h⟩
  exact (World.cell?_of_block (hs a.block ha)).trans hv
 | qm ks l=>
  obtain ⟨h0,hm,hb,b,es,c,h1,h2,h3,h4⟩:=h
  exact ⟨h0,hm,hb,b,es,c,h1,by rw[hs b (by simp[Owns,h1])];exact h2,h3,h4.ext0 x⟩
 | frm ks l=>
  obtain ⟨h0,hb,b,es,c,h1,h2,h3,h4,h5⟩:=h
  exact ⟨h0,hb,b,es,c,h1,x.ok b h2,(x.blk _ h2).trans h3,h4,h5.ext0 x⟩
 | map k t m=>
  obtain ⟨h0,hw,hm,b,es,h1,h2,h3⟩:=h
  exact ⟨h0,hw,hm,b,es,h1,by rw[hs b (by simp[Owns,h1])];exact h2,h3.mono x.cell x.ok⟩
 | mit m s l c=>
  obtain ⟨h0,hm,b,bm,h1,h2,h3⟩:=h
  refine ⟨h0,x.num m hm,b,bm,h1,by rw[hs b (by simp[Owns,h1])];exact h2,fun e=>?_⟩
  rcases x.ver m hm with ⟨e1,e2⟩ | ⟨e1,e2⟩
  ·rw[e2];exact h3 (by rw[← e1];exact e)
  ·omega
 | vv k s t xss pend eo ei=>
  obtain ⟨h1,h2,h3,h4,h5,⟨vs,h6,h7⟩,h8,h9⟩:=h
  refine ⟨h1,h2,h3,h4,h5,⟨vs,xL h6 fun b hb=>hs b (.inl ?_),h7⟩,fun b hb=>?_,h9.ext x fun b hb=>hs b (.inr hb)⟩
  ·simp only[Core.head] at hb
   cases hL:L.blk with
   | none=>rw[hL] at hb;cases hb
   | some p=>rw[hL] at hb;simpa [Value.ownBlock] using hb
  ·obtain ⟨q1,q2,c,e,q3⟩:=h8 b hb
   exact ⟨Nat.lt_of_lt_of_le q1 x.size,q2,c,e,by rw[hs b (.inr hb)];exact q3⟩
 | yst st n it=>
  obtain ⟨h1,h2,h3,h4,h5,h6,h7⟩:=h
  refine ⟨h1,fun b hb=>Nat.lt_of_lt_of_le (h2 b hb) x.size,by rw[x.itr];exact Nat.le_trans h3 x.size,by rw[x.itr];exact h4,by rw[x.itr];exact h5,fun b hb hl=>?_,?_⟩
  ·rw[x.itr] at hb ⊢
   obtain ⟨h8,h9⟩:=h6 b hb hl
   exact ⟨h8,x.ok b h9⟩
  ·rw[x.itr]
   have:=E.itr.abides st _ E.w E'.w h7 x.os x.tape x.output x.size fun b hb hm=>by
    by_cases hl:L.al b
    ·exact hs b hl
    ·by_cases hn:b<E.itr.n0
     ·exact x.blk b (h6 b hn hl).2
     ·exact (hm ⟨by omega,hb,hl⟩).elim
   refine cast (congrArg (fun M=>E.itr.J st M E'.w) (funext fun b=>propext ⟨?_,?_⟩)) this
   ·rintro (⟨h8,h9,h10⟩ | ⟨h8,h9⟩)
    ·exact ⟨h8,Nat.lt_of_lt_of_le h9 x.size,h10⟩
    ·exact ⟨Nat.le_trans h3 h8,h9,fun hl=>by have:=h2 b hl;omega⟩
   ·rintro ⟨h8,h9,h10⟩
    by_cases h11:b<E.w.heap.size
    ·exact .inl ⟨h8,h11,h10⟩
    ·exact .inr ⟨by omega,h9⟩
 | cells l e=>
  obtain ⟨h0,b,vs,h1,h2,h3⟩:=h
  exact ⟨h0,b,vs,h1,by rw[hs b (by simp[Owns,h1])];exact h2,h3.ext0 x⟩
 | vec k t xs e=>
  obtain ⟨h0,h00,h1,h2,vs,h3,h4⟩:=h
  refine ⟨h0,h00,h1,h2,vs,?_,fun i hi=>(h4 i hi).mono x.cell x.ok⟩
  refine ⟨h3.1,?_⟩
  rcases h3.2 with h5 | ⟨g,cap,cur,h5,h6,h7,h8⟩
  ·exact .inl h5
  ·refine .inr ⟨g,cap,cur,h5,h6,?_,h8⟩
   rw[hs g ?_];exact h7
   simp only[Core.head,Value.slice.injEq] at h5
   cases hL:L.blk with
   | none=>rw[hL] at h5;simp at h5
   | some p=>rw[hL] at h5;simp at h5;simp[Owns,hL,h5.1.1]
theorem cB {H:List HO} {nm:Nat} (h:hasB H nm=true):nm<H.length:=by
 simp only[hasB,Bool.and_eq_true] at h
 simpa using h.1
theorem iO (H:List HO):hasB H H.length=false:=by simp[hasB]
theorem bA {H:List HO} {nm:Nat} {o:HO} (h:H[nm]? =some o) (ho:qC o=false):hasB H nm=true:=by
 have hlt:=(List.getElem?_eq_some_iff.1 h).1
 unfold hasB hget
 rw[List.getD_eq_getElem?_getD,h]
 simp[hlt,ho]
theorem eC {H:List HO} {o:HO} (ho:qC o=false):hasB (H++ [o]) H.length=true:=bA (by simp) ho
theorem qS {H H':List HO} {nm:Nat} (h:H'[nm]? =H[nm]?) (hb:hasB H nm=true):hasB H' nm=true:=by
 have hlt:=cB hb
 have h2:nm<H'.length:=by
  apply Classical.byContradiction
  intro hn
  rw[List.getElem?_eq_none (by omega)] at h
  have:=List.getElem?_eq_none_iff.1 h.symm
  omega
 simp only[hasB,hget,List.getD_eq_getElem?_getD,h,Bool.and_eq_true] at hb ⊢
 exact ⟨by simpa using h2,hb.2⟩
theorem Inv.turn0 {G:Ctx} {H H':List HO} {loc loc':Nat→Loc} {ver ver':Nat→Nat} {w w':World} (hI:Inv G H loc ver w) (nm:Nat)
  (hlen:H.length≤H'.length)
  (hoth:∀k,k≠nm→H'[k]? =H[k]? ∧loc' k=loc k∧ver' k=ver k)
  (hhas:hasB H nm=true→hasB H' nm=true)
  (hver:hasB H nm=true→(ver' nm=ver nm∧(loc' nm).toCore=(loc nm).toCore∧((loc' nm).sub=(loc nm).sub∨(loc nm).sub.v<(loc' nm).sub.v))∨(0<ver nm∧ver nm<ver' nm))
  (hsz:w.heap.size≤w'.heap.size) (hos:w'.os=w.os) (htp:w'.tape=w.tape) (hout:w'.output=w.output)
  (hblk:∀b,b<w.heap.size→(∀o,H[nm]? =some o→¬Owns (loc nm) o b)→w'.heap[b]? =w.heap[b]?)
  (hfr:∀o' b,H'[nm]? =some o'→Owns (loc' nm) o' b→(∃o,H[nm]? =some o∧Owns (loc nm) o b)∨w.heap.size≤b)
  (hali:∀st n it b,H'[nm]? =some (.yst st n it)→(loc' nm).al b→(∃st n it,H[nm]? =some (.yst st n it)∧(loc nm).al b)∨w.heap.size≤b)
  (hnew:Ext0 (envOf G H loc ver w) (envOf G H' loc' ver' w')→∀o',H'[nm]? =some o'→OSat (envOf G H' loc' ver' w') (loc' nm) (ver' nm) o'):
  Inv G H' loc' ver' w'∧Ext0 (envOf G H loc ver w) (envOf G H' loc' ver' w'):=by
 have hown:∀b,Owned H' loc' b→Owned H loc b∨w.heap.size≤b:=by
  rintro b ⟨k,o,hk,hb⟩
  by_cases e:k=nm
  ·subst e
   rcases hfr o b hk hb with ⟨o',h1,h2⟩ | h
   ·exact .inl ⟨_,o',h1,h2⟩
   ·exact .inr h
  ·obtain ⟨h1,h2,_⟩:=hoth k e
   exact .inl ⟨k,o,by rw[← h1];exact hk,by rw[← h2];exact hb⟩
 have hokb:∀b,okN G H loc w b→w'.heap[b]? =w.heap[b]? :=fun b hb=>hblk b hb.2.1 fun o ho hbk=>hb.2.2 ⟨nm,o,ho,hbk⟩
 have hx:Ext0 (envOf G H loc ver w) (envOf G H' loc' ver' w'):=by
  refine ⟨hokb,fun b hb=>⟨hb.1,Nat.lt_of_lt_of_le hb.2.1 hsz,fun ho=>?_⟩,fun k hk=>?_,fun k hk=>?_,hos,htp,hout,hsz,fun b=>?_,rfl,fun k hk he=>?_⟩
  ·rcases hown b ho with h | h
   ·exact hb.2.2 h
   ·have:=hb.2.1;omega
  ·by_cases e:k=nm
   ·subst e;exact hhas hk
   ·exact qS (hoth k e).1 hk
  ·by_cases e:k=nm
   ·subst e;exact (hver hk).imp (fun h=>⟨h.1,h.2.1⟩) id
   ·obtain ⟨_,h2,h3⟩:=hoth k e;exact .inl ⟨h3,congrArg _ h2⟩
  ·rintro ⟨k,st,n,it,hk,hb⟩
   by_cases e:k=nm
   ·subst e
    rcases hali st n it b hk hb with ⟨st',n',it',h1,h2⟩ | h
    ·exact .inl ⟨k,st',n',it',h1,h2⟩
    ·exact .inr h
   ·obtain ⟨h1,h2,_⟩:=hoth k e
    exact .inl ⟨k,st,n,it,by rw[← h1];exact hk,by rw[← h2];exact hb⟩
  ·have he:ver' k=ver k:=he
   by_cases e:k=nm
   ·subst e
    rcases hver hk with h | h
    ·exact h.2.2
    ·omega
   ·obtain ⟨_,h2,_⟩:=hoth k e
    exact .inl (congrArg _ h2)
 have hnew':=hnew hx
 refine ⟨⟨Nat.le_trans hI.size hsz,hos.trans hI.os,htp.trans hI.tape,hout.trans hI.output,fun b hb hm=>?_,fun k o hk=>?_,fun b hb=>?_,fun k k' o o' b hk hk' hb hb'=>?_⟩,hx⟩
 ·refine (hblk b (Nat.lt_of_lt_of_le hb hI.size) fun o ho hbk=>?_).trans (hI.frame b hb hm)
  rcases hI.own b ⟨nm,o,ho,hbk⟩ with h | h
  ·exact hm h
  ·omega
 ·by_cases e:k=nm
  ·subst e;exact hnew' o hk
  ·obtain ⟨h1,h2,h3⟩:=hoth k e
   rw[h1] at hk
   rw[h2,h3]
   have hO:=hI.objs k o hk
   refine hO.ext hx fun b hb=>hblk b (hO.block hb) fun o₁ ho₁ hb₁=>e (hI.sep _ _ _ _ b hk ho₁ hb hb₁)
 ·rcases hown b hb with h | h
  ·exact hI.own b h
  ·exact .inr (Nat.le_trans hI.size h)
 ·have key:∀k o,k≠nm→H'[k]? =some o→Owns (loc' k) o b→∀o',H'[nm]? =some o'→Owns (loc' nm) o' b→False:=by
   intro k o e hk hb o' hk' hb'
   obtain ⟨h1,h2,_⟩:=hoth k e
   rw[h1] at hk;rw[h2] at hb
   rcases hfr o' b hk' hb' with ⟨o₁,h3,h4⟩ | h
   ·exact e (hI.sep _ _ _ _ b hk h3 hb h4)
   ·have:=(hI.objs k o hk).block hb;simp[envOf] at this;omega
  by_cases e:k=nm
  ·by_cases e':k'=nm
   ·rw[e,e']
   ·subst e;exact (key k' o' e' hk' hb' o hk hb).elim
  ·by_cases e':k'=nm
   ·subst e';exact (key k o e hk hb o' hk' hb').elim
   ·obtain ⟨h1,h2,_⟩:=hoth k e
    obtain ⟨h3,h4,_⟩:=hoth k' e'
    rw[h1] at hk;rw[h2] at hb;rw[h3] at hk';rw[h4] at hb'
    exact hI.sep _ _ _ _ b hk hk' hb hb'
theorem Inv.turn {G:Ctx} {H H':List HO} {loc loc':Nat→Loc} {ver ver':Nat→Nat} {w w':World} (hI:Inv G H loc ver w) (nm:Nat)
  (hlen:H.length≤H'.length)
  (hoth:∀k,k≠nm→H'[k]? =H[k]? ∧loc' k=loc k∧ver' k=ver k)
  (hhas:hasB H nm=true→hasB H' nm=true)
  (hver:hasB H nm=true→(ver' nm=ver nm∧(loc' nm).toCore=(loc nm).toCore∧((loc' nm).sub=(loc nm).sub∨(loc nm).sub.v<(loc' nm).sub.v))∨(0<ver nm∧ver nm<ver' nm))
  (hsz:w.heap.size≤w'.heap.size) (hos:w'.os=w.os) (htp:w'.tape=w.tape) (hout:w'.output=w.output)
  (hng:H[nm]? ≠some .gone) (hng':hasB H nm=true→H'[nm]? ≠some .gone)
  (hny:∀st n it b,H'[nm]? =some (.yst st n it)→(loc' nm).al b→(∃st n it,H[nm]? =some (.yst st n it)∧(loc nm).al b)∨w.heap.size≤b)
  (hblk:∀b,b<w.heap.size→(∀o,H[nm]? =some o→¬Owns (loc nm) o b)→w'.heap[b]? =w.heap[b]?)
  (hfr:∀o' b,H'[nm]? =some o'→Owns (loc' nm) o' b→(∃o,H[nm]? =some o∧Owns (loc nm) o b)∨w.heap.size≤b)
  (hnew:Ext (envOf G H loc ver w) (envOf G H' loc' ver' w')→∀o',H'[nm]? =some o'→OSat (envOf G H' loc' ver' w') (loc' nm) (ver' nm) o'):
  Inv G H' loc' ver' w'∧Ext (envOf G H loc ver w) (envOf G H' loc' ver' w'):=by
 have hgho:∀k b,ghoN H loc k b→ghoN H' loc' k b∧w'.heap[b]? =w.heap[b]? :=by
  rintro k b ⟨hk,hb⟩
  have e:k≠nm:=fun e=>hng (by rw[← e];exact hk)
  obtain ⟨h1,h2,_⟩:=hoth k e
  refine ⟨⟨by rw[h1];exact hk,by rw[h2];exact hb⟩,hblk b ((hI.objs k _ hk).2 b hb) fun o ho hbo=>?_⟩
  exact e (hI.sep _ _ _ _ b hk ho hb hbo)
 have hgho':∀k b,hasB H k=true→ghoN H' loc' k b→ghoN H loc k b:=by
  rintro k b hlt ⟨hk,hb⟩
  by_cases e:k=nm
  ·subst e;exact (hng' hlt hk).elim
  ·obtain ⟨h1,h2,_⟩:=hoth k e
   exact ⟨by rw[← h1];exact hk,by rw[← h2];exact hb⟩
 have hkeep:∀(k:Nat) (o:Obj),¬aliN H loc k→w.heap[k]? =some o→isBook o=true→w'.heap[k]? =some o:=by
  intro k o hna hk ho
  refine (hblk k (Array.getElem?_eq_some_iff.1 hk).1 fun o' ho' hb'=>?_).trans hk
  have hy:∀st n it,o'≠ .yst st n it:=by rintro st n it rfl;exact hna ⟨nm,st,n,it,ho',hb'⟩
  have:=(hI.objs nm o' ho').isBook hb' (fun e=>hng (by rw[ho',e])) hy (x:=o) hk
  rw[ho] at this;cases this
 obtain ⟨h1,h2⟩:=hI.turn0 nm hlen hoth hhas hver hsz hos htp hout hblk hfr hny (fun x=>hnew ⟨x,hkeep,hgho,hgho'⟩)
 exact ⟨h1,⟨h2,hkeep,hgho,hgho'⟩⟩
def upd {α:Type} (f:Nat→α) (n:Nat) (x:α):Nat→α:=fun k=>if k=n then x else f k
theorem aG {α:Type} (f:Nat→α) (n:Nat) (x:α):upd f n x n=x:=if_pos rfl
theorem aT {α:Type} (f:Nat→α) (n:Nat) (x:α) {k:Nat} (h:k≠n):upd f n x k=f k:=if_neg h
theorem bT {H:List HO} {o:HO}:(H++ [o])[H.length]? =some o:=by simp
theorem cD {H:List HO} {o:HO} {k:Nat} (h:k≠H.length):(H++ [o])[k]? =H[k]? :=by
 rcases Nat.lt_or_ge k H.length with h1 | h1
 ·rw[List.getElem?_append_left h1]
 ·rw[List.getElem?_append_right h1,List.getElem?_eq_none (l:=H) (by omega)]
  have:k-H.length≠0:=by omega
  cases hk:k-H.length with
  | zero=>omega
  | succ m=>rfl
theorem aB {H:List HO} {nm:Nat} {o:HO} (h:nm<H.length):(H.set nm o)[nm]? =some o:=by simp[h]
theorem aK {H:List HO} {nm k:Nat} {o:HO} (h:k≠nm):(H.set nm o)[k]? =H[k]? :=by
 rw[List.getElem?_set];simp[Ne.symm h]
theorem Inv.fresh {G:Ctx} {H:List HO} {loc:Nat→Loc} {ver:Nat→Nat} {w w':World} (hI:Inv G H loc ver w) (o:HO) (L:Loc) (v:Nat)
  (hsz:w.heap.size≤w'.heap.size) (hos:w'.os=w.os) (htp:w'.tape=w.tape) (hout:w'.output=w.output)
  (hblk:∀b,b<w.heap.size→w'.heap[b]? =w.heap[b]?)
  (hfr:∀b,Owns L o b→w.heap.size≤b)
  (hnew:Ext (envOf G H loc ver w) (envOf G (H++ [o]) (upd loc H.length L) (upd ver H.length v) w')→OSat (envOf G (H++ [o]) (upd loc H.length L) (upd ver H.length v) w') L v o)
  (hny:∀st n it,o≠ .yst st n it:=by intro _ _ _ h;cases h):
  Inv G (H++ [o]) (upd loc H.length L) (upd ver H.length v) w'∧Ext (envOf G H loc ver w) (envOf G (H++ [o]) (upd loc H.length L) (upd ver H.length v) w'):=by
 refine hI.turn H.length (by simp) (fun k hk=>⟨cD hk,aT _ _ _ hk,aT _ _ _ hk⟩) (fun h=>by rw[iO] at h;cases h) (fun h=>by rw[iO] at h;cases h) hsz hos htp hout (by simp) (fun h=>by rw[iO] at h;cases h) (fun st n it b h=>by rw[bT] at h;cases h;exact (hny _ _ _ rfl).elim) (fun b hb _=>hblk b hb) ?_ ?_
 ·intro o' b ho' hb
  rw[bT] at ho';cases ho'
  rw[aG] at hb
  exact .inr (hfr b hb)
 ·intro hx o' ho'
  rw[bT] at ho';cases ho'
  rw[aG,aG]
  exact hnew hx
theorem Inv.inPlace {G:Ctx} {H:List HO} {loc:Nat→Loc} {ver:Nat→Nat} {w w':World} (hI:Inv G H loc ver w) {nm:Nat} {o o':HO} {b:Nat} (hn:H[nm]? =some o) (hb:Owns (loc nm) o b) (hob:∀b',Owns (loc nm) o' b'→Owns (loc nm) o b')
  (hsz:w'.heap.size=w.heap.size) (hos:w'.os=w.os) (htp:w'.tape=w.tape) (hout:w'.output=w.output)
  (hblk:∀b',b'≠b→w'.heap[b']? =w.heap[b']?)
  (hnew:Ext (envOf G H loc ver w) (envOf G (H.set nm o') loc ver w')→OSat (envOf G (H.set nm o') loc ver w') (loc nm) (ver nm) o')
  (hng:o≠ .gone:=by intro h;cases h) (hng':o'≠ .gone:=by intro h;cases h) (hnr:qC o'=false:=by rfl) (hny:∀st n it,o'≠ .yst st n it:=by intro _ _ _ h;cases h):
  Inv G (H.set nm o') loc ver w'∧Ext (envOf G H loc ver w) (envOf G (H.set nm o') loc ver w'):=by
 have hlt:nm<H.length:=(List.getElem?_eq_some_iff.1 hn).1
 refine hI.turn nm (by simp) (fun k hk=>⟨aK hk,rfl,rfl⟩) (fun _=>bA (aB hlt) hnr) (fun _=>.inl ⟨rfl,rfl,.inl rfl⟩) (by omega) hos htp hout (by rw[hn];intro h;cases h;exact hng rfl) (fun _=>by rw[aB hlt];intro h;cases h;exact hng' rfl) (fun st n it b h=>by rw[aB hlt] at h;cases h;exact (hny _ _ _ rfl).elim) (fun b' _ h=>hblk b' fun e=>h o hn (by rw[e];exact hb)) ?_ ?_
 ·intro o₁ b₁ ho₁ hb₁
  rw[aB hlt] at ho₁;cases ho₁
  exact .inl ⟨o,hn,hob _ hb₁⟩
 ·intro hx o₁ ho₁
  rw[aB hlt] at ho₁;cases ho₁
  exact hnew hx
theorem Inv.grow {G:Ctx} {H:List HO} {loc:Nat→Loc} {ver:Nat→Nat} {w w':World} (hI:Inv G H loc ver w) (hb:Below w.heap.size w w'):
  Inv G H loc ver w'∧Ext (envOf G H loc ver w) (envOf G H loc ver w'):=by
 refine hI.turn H.length (Nat.le_refl _) (fun _ _=>⟨rfl,rfl,rfl⟩) (fun h=>h) (fun h=>by rw[iO] at h;cases h) hb.size hb.os hb.tape hb.output (by simp) (fun h=>by rw[iO] at h;cases h) (fun st n it b h=>by simp at h) (fun b h _=>hb.block b h) ?_ ?_
 ·intro o' b ho'
  simp at ho'
 ·intro _ o' ho'
  simp at ho'
def Res (G:Ctx) (E:Env) (K:SV→List HO→Prop) (v:Value) (w':World):Prop:=
 ∃s H' loc' ver',K s H'∧Inv G H' loc' ver' w'∧Rel (envOf G H' loc' ver' w') s v∧Ext E (envOf G H' loc' ver' w')
theorem Res.pure {G:Ctx} {H:List HO} {loc:Nat→Loc} {ver:Nat→Nat} {w:World} (hI:Inv G H loc ver w) {K:SV→List HO→Prop} {s:SV} {v:Value} (hk:K s H) (hr:Rel (envOf G H loc ver w) s v):Res G (envOf G H loc ver w) K v w:=
 ⟨s,H,loc,ver,hk,hI,hr,Ext.refl _⟩
def Opn (F:Fence):Prop:=∃ro,F= { Fence.wide with round:=ro }
theorem Opn.fn {F:Fence} (h:Opn F) (f:FuncId):F.fn f:=by obtain ⟨ro,rfl⟩:=h;trivial
theorem Opn.depth {F:Fence} (h:Opn F):F.depth=none:=by obtain ⟨ro,rfl⟩:=h;rfl
theorem Opn.calls {F:Fence} (h:Opn F) {n:Nat} {P:Program} {f:FuncId} {args:Array Value} {w:World} {R:Ending→World→Prop} (hc:Calls P f args w R):CallsIn F n P f args w R:=by
 obtain ⟨ro,rfl⟩:=h
 exact callsIn_wide.2 hc
inductive OpOK (P:Program) (F:Fence) (o:Oper) (a:Act) (w:World) (R:Value→World→Prop):Prop where
 | value (v:Value) (w':World) (hr:(execOp a.eval o).run P w= .ok (.value v) w') (h:R v w'):OpOK P F o a w R
 | skip (w':World) (hr:(execOp a.eval o).run P w= .ok .skip w') (h:R undef w'):OpOK P F o a w R
 | yield (l:Nat) (args:Array Value) (hr:(execOp a.eval o).run P w=(Instr.yield l args).run P w) (h:YieldAt Fence.wide 0 P l args w fun e w'=>∃v,e= .returned v∧R v w'):OpOK P F o a w R
 | call (f:FuncId) (args:Array Value) (hr:(execOp a.eval o).run P w= .ok (.enter f args) w) (h:∀n,CallsIn F n P f args w fun e w'=>∃v,e= .returned v∧R v w'):OpOK P F o a w R
theorem OpOK.mono {P:Program} {F:Fence} {o:Oper} {a:Act} {w:World} {R R':Value→World→Prop} (h:OpOK P F o a w R) (hr:∀v w',R v w'→R' v w'):OpOK P F o a w R':=by
 cases h with
 | value v w' h1 h2=>exact .value v w' h1 (hr _ _ h2)
 | skip w' h1 h2=>exact .skip w' h1 (hr _ _ h2)
 | yield l args h1 h2=>exact .yield l args h1 (h2.mono fun e w' ⟨v,he,h⟩=>⟨v,he,hr _ _ h⟩)
 | call f args h1 h2=>exact .call f args h1 fun n=>(h2 n).mono fun e w' ⟨v,he,h⟩=>⟨v,he,hr _ _ h⟩
theorem OpOK.wpIn {P:Program} {F:Fence} {n:Nat} {o:Oper} {a:Act} {w:World} {R:Value→World→Prop} {next:Act→World→Prop} {Q:Exit→Act→World→Prop} (hF:Opn F) (hd:∀c,o.op≠ .defer c)
  (h:OpOK P F o a w R) (hn:∀v w',R v w'→next (a.put o.dst v) w'):o.wpIn F n P a w next Q:=by
 refine ⟨fun f _=>hF.fn f,?_⟩
 rw[Oper.semAt_eq _ _ _ hd]
 cases h with
 | value v w' h1 h2=>rw[h1];exact hn _ _ h2
 | skip w' h1 h2=>rw[h1];exact hn _ _ h2
 | yield l args h1 h2=>
  obtain ⟨fn,tmps,assign,body,hy,hR⟩:=h2
  rw[h1,hy]
  refine ⟨fun hs=>(by rw[hF.depth] at hs;cases hs),?_⟩
  obtain ⟨ro,rfl⟩:=hF
  refine RoundIn.mono (R:=fun e w'=>∃v,e= .returned v∧R v w') ⟨hR.1,fun c cs _=>hR.2 c cs (fun d h=>by cases h)⟩ ?_
  rintro e w' ⟨v,rfl,h⟩
  exact hn _ _ h
 | call f args h1 h2=>
  rw[h1]
  refine ⟨fun hs=>(by rw[hF.depth] at hs;cases hs),(h2 _).mono ?_⟩
  rintro e w' ⟨v,rfl,h⟩
  exact hn _ _ h
end Go.Eng
end
section
namespace Go.Eng
open Go.RowKit
theorem mD {k:IntKind} {n:Int} (h:inK k n):k.wrap n=n:=by
 obtain ⟨h1,h2⟩:=h
 cases k<;>simp only[lo,hi] at h1 h2<;>simp only[IntKind.wrap,IntKind.bits,IntKind.signed]<;>simp<;>omega
theorem Rel.int_inv {E:Env} {k:IntKind} {n:Int} {v:Value} (h:Rel E (.val (.int k n)) v):v= .int k n∧inK k n:=by
 cases h with
 | val _ hw=>exact ⟨rfl,hw⟩
theorem Rel.bool_inv {E:Env} {b:Bool} {v:Value} (h:Rel E (.val (.bool b)) v):v= .bool b:=by cases h;rfl
theorem Om (E:Env) (v:Value):Rel E (cst v) v:=by
 cases v with
 | int k n=>
  simp only[cst]
  cases h:(decide (lo k≤n)&&decide (n≤hi k)) with
  | true=>simp at h;exact .val _ ⟨h.1,h.2⟩
  | false=>exact .any _
 | string s=>
  simp only[cst]
  cases h:Nat.ble s.data.toList.length 140737488355328 with
  | true=>
   have h2:s= ⟨s.data.toList.toArray⟩:=by cases s;simp
   conv=>rhs;rw[h2]
   exact .str _ (Nat.le_of_ble_eq_true h)
  | false=>exact .any _
 | _=>exact .val _ trivial
theorem aJ {a b:Nat}:Nat.beq a b=true↔a=b:=by rw[Nat.beq_eq]
theorem dR {a b:Nat} (h:a≠b):Nat.beq a b=false:=by
 cases e:Nat.beq a b with
 | false=>rfl
 | true=>exact absurd (aJ.1 e) h
theorem bW (a:Nat):Nat.beq a a=true:=aJ.2 rfl
theorem gD (l:List (Nat × SV)) (t u:Nat) (v:SV):look (put l t v) u=if u=t then v else look l u:=by
 induction l with
 | nil=>
  simp only[put,look]
  by_cases e:u=t
  ·subst e;simp[bW]
  ·simp[dR (Ne.symm e),e]
 | cons p r ih=>
  obtain ⟨i,x⟩:=p
  simp only[put]
  by_cases e:i=t
  ·subst e
   rw[bW]
   simp only[cond_true,look]
   by_cases e2:u=i
   ·subst e2;simp[bW]
   ·simp[dR (Ne.symm e2),e2]
  ·rw[dR e]
   simp only[cond_false,look]
   by_cases e2:i=u
   ·subst e2;simp[bW,e]
   ·rw[dR e2];simp only[cond_false];exact ih
structure TRel (E:Env) (N:Nat) (l:List (Nat × SV)) (a:Act):Prop where
 size:a.tmps.size=N
 rel:∀t,Rel E (look l t) (a.tmps.getD t undef)
theorem TRel.ext0 {E E':Env} {N:Nat} {l:List (Nat × SV)} {a:Act} (h:TRel E N l a) (x:Ext0 E E'):TRel E' N l a:=⟨h.size,fun t=>(h.rel t).ext0 x⟩
theorem TRel.ext {E E':Env} {N:Nat} {l:List (Nat × SV)} {a:Act} (h:TRel E N l a) (x:Ext E E'):TRel E' N l a:=⟨h.size,fun t=>(h.rel t).ext x⟩
theorem nY (a:Act) (d t:Nat) (v:Value) (h:d<a.tmps.size):(a.put (some d) v).tmps.getD t undef=if t=d then v else a.tmps.getD t undef:=by
 simp only[Act.put,Array.getD_eq_getD_getElem?]
 rw[Array.getElem?_setIfInBounds]
 by_cases e:t=d
 ·subst e;simp[h]
 ·have:¬d=t:=fun h=>e h.symm
  simp[this,e]
theorem TRel.put {E:Env} {N:Nat} {l:List (Nat × SV)} {a:Act} (h:TRel E N l a) {d:Nat} (hd:d<N) {s:SV} {v:Value} (hr:Rel E s v):TRel E N (put l d s) (a.put (some d) v):=by
 refine ⟨by simp[Act.put,h.size],fun t=>?_⟩
 rw[gD,nY a d t v (by rw[h.size];exact hd)]
 by_cases e:t=d
 ·rw[if_pos e,if_pos e];exact hr
 ·rw[if_neg e,if_neg e];exact h.rel t
theorem TRel.any {E:Env} {N:Nat} {l:List (Nat × SV)} {a:Act} (h:TRel E N l a) (o:Option Nat) {v:Value} {K:List (Nat × SV)→Prop} {s:SV} (hk:setT N l o s K) (hr:Rel E s v):∃l',K l'∧TRel E N l' (a.put o v):=by
 cases o with
 | none=>exact ⟨l,hk,h⟩
 | some t=>
  simp only[setT] at hk
  cases hb:Nat.blt t N with
  | false=>rw[hb] at hk;exact hk.elim
  | true=>
   rw[hb] at hk
   simp only[cond_true,aL] at hk
   exact ⟨_,hk,h.put (by simpa using hb) hr⟩
theorem fO {E:Env} {N:Nat} {l:List (Nat × SV)} {a:Act} (h:TRel E N l a) (x:Operand):Rel E (ev l x) (a.eval x):=by
 cases x with
 | tmp t=>exact h.rel t
 | const v=>exact Om E v
 | global g=>exact .any _
 | func f=>exact .clo f [] [] [] [] .nil .nil
theorem pG {E:Env} {N:Nat} {l:List (Nat × SV)} {a:Act} (h:TRel E N l a) (xs:List Operand):RelL E (xs.map (ev l)) (xs.map a.eval):=by
 induction xs with
 | nil=>exact .nil
 | cons x r ih=>exact .cons _ _ _ _ (fO h x) ih
theorem iY (P:Program) (w:World) (op:BinOp) (t:TypeId) (x y:Operand) (k k':IntKind) (a b:Int):(eqGuard op t x y (.int k a) (.int k' b)).run P w= .ok () w:=by
 cases op<;>simp[eqGuard]
theorem lE (k:IntKind) (n:Int):inK k (k.wrap n):=by
 cases k<;>simp only[inK,IntKind.wrap,lo,hi,IntKind.bits,IntKind.signed]<;>simp<;>omega
theorem Ay {P:Program} {w:World} {E:Env} {op:BinOp} {k k':IntKind} {a b:Int} {K:SV→Prop} (h:Dn op k a b K) (ha:inK k a) (t:TypeId):
  ∃v s,(binOp op t (.int k a) (.int k' b)).run P w= .ok v w∧K s∧Rel E s v:=by
 cases op<;>simp only[Dn] at h
 case shl=>
  obtain ⟨h1,h2⟩:=h
  exact ⟨_,_,by simp[binOp,Op.shift,show ¬b<0 by omega,shlI],h2,.val _ (lE _ _)⟩
 case shr=>
  obtain ⟨h1,h2⟩:=h
  refine ⟨.int k (shrI k a b),_,by simp[binOp,Op.shift,show ¬b<0 by omega,shrI],h2,.val _ ?_⟩
  obtain ⟨l1,l2⟩:=ha
  have h0:lo k≤0:=by cases k<;>simp[lo]
  have h9:0≤hi k:=by cases k<;>simp[hi]
  have hp:(0:Int)<2^ (min b.toNat k.bits):=Int.pow_pos (by decide)
  have e:shrI k a b=a/2^ (min b.toNat k.bits):=Int.fdiv_eq_ediv_of_nonneg _ (Int.le_of_lt hp)
  rw[e]
  generalize (2:Int)^ (min b.toNat k.bits)=q at hp
  by_cases hn:0≤a
  ·have e1:0≤a/q:=Int.ediv_nonneg hn (by omega)
   have e2:a/q≤a:=Int.ediv_le_self q hn
   exact ⟨by omega,by omega⟩
  ·have e1:a≤a/q:=by
    refine Int.le_ediv_of_mul_le hp ?_
    have:a*q≤a*1:=Int.mul_le_mul_of_nonpos_left (by omega) (by omega)
    omega
   have e2:a/q<0:=Int.ediv_neg_of_neg_of_pos (by omega) hp
   exact ⟨by omega,by omega⟩
 all_goals exact h.elim
theorem Hn {P:Program} {w:World} {E:Env} {op:BinOp} {k:IntKind} {a b:Int} {K:SV→Prop} (h:Tb op k K) (t:TypeId):
  ∃v s,(binOp op t (.int k a) (.int k b)).run P w= .ok v w∧K s∧Rel E s v:=by
 cases op<;>simp only[Tb] at h
 case add=>exact ⟨.int k (k.wrap (a+b)),_,by simp[binOp,Op.intArith],h,.num k _ (lE _ _)⟩
 case lss=>exact ⟨.bool (@decide (a<b) (Classical.propDecidable _)),_,by simp[binOp,Op.intCmp],h _,.bl _ _⟩
 case leq=>exact ⟨.bool (@decide (a≤b) (Classical.propDecidable _)),_,by simp[binOp,Op.intCmp],h _,.bl _ _⟩
 case gtr=>exact ⟨.bool (@decide (b<a) (Classical.propDecidable _)),_,by simp[binOp,Op.intCmp],h _,.bl _ _⟩
 case geq=>exact ⟨.bool (@decide (b≤a) (Classical.propDecidable _)),_,by simp[binOp,Op.intCmp],h _,.bl _ _⟩
 all_goals exact h.elim
theorem Ho {P:Program} {w:World} {E:Env} {op:BinOp} {k:IntKind} {a b:Int} {K:SV→Prop} (h:Ta op k a b K) (ha:inK k a) (hb:inK k b) (t:TypeId):
  ∃v s,(binOp op t (.int k a) (.int k b)).run P w= .ok v w∧K s∧Rel E s v:=by
 cases op<;>simp only[Ta] at h
 case add=>obtain ⟨h1,h2⟩:=oX h;exact ⟨_,_,by simp[binOp,Op.intArith,mD h1],h2,.val _ h1⟩
 case sub=>obtain ⟨h1,h2⟩:=oX h;exact ⟨_,_,by simp[binOp,Op.intArith,mD h1],h2,.val _ h1⟩
 case mul=>obtain ⟨h1,h2⟩:=oX h;exact ⟨_,_,by simp[binOp,Op.intArith,mD h1],h2,.val _ h1⟩
 case and=>exact ⟨_,_,by simp[binOp,Op.intBits,uT],h,.val _ (lE _ _)⟩
 case or=>exact ⟨_,_,by simp[binOp,Op.intBits,uT],h,.val _ (lE _ _)⟩
 case xor=>exact ⟨_,_,by simp[binOp,Op.intBits,uT],h,.val _ (lE _ _)⟩
 case andNot=>exact ⟨_,_,by simp[binOp,Op.intBits,uT],h,.val _ (lE _ _)⟩
 case quo=>
  rcases h.or with h | h
  case inr=>
   obtain ⟨h1,h2⟩:=h
   obtain ⟨h3,h4⟩:=oX h2
   exact ⟨_,_,by simp[binOp,Op.intDiv,h1,mD h3],h4,.val _ h3⟩
  obtain ⟨⟨h1,h2⟩,h3⟩:=h
  have h4:inK k (a/b):=by
   have e1:0≤a/b:=Int.ediv_nonneg h1 (by omega)
   have e2:a/b≤a:=Int.ediv_le_self b h1
   obtain ⟨l1,l2⟩:=ha
   exact ⟨by have:lo k≤0:=by cases k<;>simp[lo]
             omega,by omega⟩
  exact ⟨_,_,by simp[binOp,Op.intDiv,show b≠0 by omega,Int.tdiv_eq_ediv_of_nonneg h1,mD h4],h3,.val _ h4⟩
 case rem=>
  rcases h.or with h | h
  case inr=>
   obtain ⟨h1,h2⟩:=h
   refine ⟨_,_,by simp[binOp,Op.intDiv,h1],h2,.val _ ?_⟩
   obtain ⟨l1,l2⟩:=ha
   have h0:lo k≤0:=by cases k<;>simp[lo]
   have h9:0≤hi k:=by cases k<;>simp[hi]
   by_cases hp:0≤a
   ·have e1:=Int.tmod_nonneg b hp
    have e2:a.tmod b≤a:=by
     have:=Int.natAbs_tmod a b
     have:=Nat.mod_le a.natAbs b.natAbs
     omega
    exact ⟨by omega,by omega⟩
   ·have e2:a.tmod b≤0∧a≤a.tmod b:=by
     have h5:(-a).tmod b= -(a.tmod b):=Int.neg_tmod a b
     have h6:=Int.tmod_nonneg b (show 0≤ -a by omega)
     have h7:=Int.natAbs_tmod (-a) b
     have h8:=Nat.mod_le (-a).natAbs b.natAbs
     omega
    exact ⟨by omega,by omega⟩
  obtain ⟨⟨h1,h2⟩,h3⟩:=h
  have h4:inK k (a%b):=by
   have e1:0≤a%b:=Int.emod_nonneg a (by omega)
   have e2:a%b<b:=Int.emod_lt_of_pos a h2
   obtain ⟨l1,l2⟩:=hb
   exact ⟨by have:lo k≤0:=by cases k<;>simp[lo]
             omega,by omega⟩
  exact ⟨_,_,by simp[binOp,Op.intDiv,show b≠0 by omega,Int.tmod_eq_emod_of_nonneg h1],h3,.val _ h4⟩
 case eql=>exact ⟨_,_,by simp[binOp,Op.intCmp];rfl,h,.bl _ _⟩
 case neq=>
  refine ⟨_,_,by simp[binOp,Op.intCmp];rfl,h,?_⟩
  have e:(a != b)=decide (¬a=b):=by by_cases e:a=b<;>simp[e]
  rw[e];exact .bl _ _
 case lss=>exact ⟨_,_,by simp[binOp,Op.intCmp],h,.bl _ _⟩
 case leq=>exact ⟨_,_,by simp[binOp,Op.intCmp],h,.bl _ _⟩
 case gtr=>exact ⟨_,_,by simp[binOp,Op.intCmp],h,.bl _ _⟩
 case geq=>exact ⟨_,_,by simp[binOp,Op.intCmp],h,.bl _ _⟩
 all_goals exact h.elim
theorem Zd {k:IntKind} {a b:Int} (ha:inK k a) (hb:inK k b):inK k (max a b):=by
 obtain ⟨a1,a2⟩:=ha;obtain ⟨b1,b2⟩:=hb;exact ⟨by omega,by omega⟩
theorem Ze {k:IntKind} {a b:Int} (ha:inK k a) (hb:inK k b):inK k (min a b):=by
 obtain ⟨a1,a2⟩:=ha;obtain ⟨b1,b2⟩:=hb;exact ⟨by omega,by omega⟩
theorem Rh {P:Program} {t:TypeId} (h:aggB P t=some true):∃d,P.underlying t=some d∧d.isRow=true:=by
 unfold aggB at h
 split at h<;>first | (rename_i e;exact ⟨_,e,rfl⟩) | (cases h;done) | (simp at h;done)
theorem lG {P:Program} {t:TypeId} {b:Bool} (h:aggB P t=some b) (w:World):(isAgg t).run P w= .ok b w:=by
 unfold aggB at h
 unfold isAgg
 cases hu:P.underlying t with
 | none=>rw[hu] at h;cases h
 | some d=>
  rw[hu] at h
  rw[Sem.run_bind,run_underlying hu w]
  cases d<;>simp_all
theorem qT {P:Program} {t:TypeId} {n:Nat} (h:cP P t=some n):∃i,P.info? t=some i∧i.size=n:=by
 unfold cP at h
 cases hi:P.info? t with
 | none=>rw[hi] at h;cases h
 | some i=>rw[hi] at h;exact ⟨i,rfl,by simpa using h⟩
theorem bY {P:Program} {t:TypeId} {n:Nat} (h:cP P t=some n) (w:World):(sizeOf t).run P w= .ok n w:=by
 obtain ⟨i,hi,rfl⟩:=qT h
 simp[sizeOf,typeInfo,hi]
theorem gQ {P:Program} {t:TypeId} {z:List SV} (h:gL P t=some z) (w:World):∃v:Value,(zeroValue t).run P w= .ok v w∧z=v.cells.toList.map cst:=by
 unfold gL at h
 cases hi:P.info? t with
 | none=>rw[hi] at h;cases h
 | some i=>
  rw[hi] at h
  simp only at h
  cases hz:i.zero with
  | none=>rw[hz] at h;cases h
  | some v=>
   rw[hz] at h
   exact ⟨v,by simp[zeroValue,typeInfo,hi,hz],by simpa using h.symm⟩
theorem iP (E:Env) (l:List Value):RelL E (l.map cst) l:=by
 induction l with
 | nil=>exact .nil
 | cons v r ih=>exact .cons _ _ _ _ (Om E v) ih
theorem qG {P:Program} {w:World} {t:TypeId} {b off:Nat} {v:Value} (ha:aggB P t=some false) (hc:w.cell? ⟨b,off,none⟩=some v):(Instr.loadAt t (.pointer (some ⟨b,off,none⟩))).run P w= .ok v w:=by
 simp[Instr.loadAt,Instr.sureAddr,loadVar,lG ha,hc]
theorem eU {P:Program} {E:Env} {t:TypeId} {ag:Bool} {sz off b base:Nat} {l:List SV} {vs:List Value} {K:SV→Prop} (h:fD ag off sz l K) (ha:aggB P t=some ag) (hs:cP P t=some sz)
  (hl:RelL E l vs) (hr:E.w.rangeAt b base vs):∃v s,(Instr.loadAt t (.pointer (some ⟨b,base+off,none⟩))).run P E.w= .ok v E.w∧K s∧Rel E s v:=by
 cases ag with
 | true=>
  simp only[fD] at h
  cases hb:Nat.ble (off+sz) l.length with
  | false=>rw[hb] at h;exact h.elim
  | true=>
   rw[hb] at h
   simp only[cond_true,aL] at h
   have hle:off+sz≤vs.length:=by rw[← hl.length];exact Nat.le_of_ble_eq_true hb
   have hlen:((vs.drop off).take sz).length=sz:=by simp;omega
   obtain ⟨d,hd,hrow⟩:=Rh ha
   obtain ⟨i,hi,hsz⟩:=qT hs
   have hr':E.w.rangeAt b (base+off) ((vs.drop off).take sz):=by
    intro j v hj
    rw[Nat.add_assoc]
    apply hr
    rw[List.getElem?_take] at hj
    split at hj
    ·rw[List.getElem?_drop] at hj;exact hj
    ·cases hj
   exact ⟨_,_,run_loadAt_mid _ _ _ _ _ _ hr' hd hrow (by rw[hi,hlen];simp[hsz]),h,.agg _ _ ((hl.drop off).take sz)⟩
 | false=>
  simp only[fD] at h
  cases hb:Nat.blt off l.length with
  | false=>rw[hb] at h;exact h.elim
  | true=>
   rw[hb] at h
   simp only[cond_true,dB] at h
   have hlt:off<l.length:=by simpa using hb
   have hlt':off<vs.length:=by rw[← hl.length];exact hlt
   have hg:=hl.get off hlt
   have e:vs[off]? =some (vs.getD off undef):=by simp[hlt']
   exact ⟨_,_,qG ha (hr off _ e),h,hg⟩
theorem aC {H:List HO} {nm:Nat} {o:HO} (h:hget H nm=o) (hd:o≠ .dead):H[nm]? =some o:=by
 unfold hget at h
 rw[List.getD_eq_getElem?_getD] at h
 cases hn:H[nm]? with
 | none=>rw[hn] at h;exact (hd h.symm).elim
 | some x=>rw[hn] at h;simpa using h
theorem Ud {E:Env} {L:Loc} {v k:Nat} {t:Ty} {xs:List t.T} {e:TypeId} (h:OSat E L v (.vec k t xs e)) {i:Nat} (hi:i<L.len):
  ∃b es,L.blk=some (b,0)∧E.w.rangeAt b (0+i*t.size) es∧Reads E.w E.ok t (xs.getD i t.dflt) es:=by
 obtain ⟨_,_,h1,h2,vs,h3,h4⟩:=h
 rcases aO h3 with ⟨_,_,h5,_⟩ | ⟨g,cur,h5,_,h6,h7,_,h8,h9⟩
 ·omega
 ·refine ⟨g,_,h5,?_,h4 i hi⟩
  intro j v hj
  rw[List.getElem?_take] at hj
  split at hj
  ·rename_i hlt
   rw[List.getElem?_drop,← h9,List.getElem?_take] at hj
   split at hj
   ·have:(⟨g,0+i*t.size+j,none⟩:Addr).off=i*t.size+j:=by simp
    simp only[World.cell?,h6]
    simpa using hj
   ·cases hj
  ·cases hj
section
variable {P:Program} {G:Ctx} {H:List HO} {loc:Nat→Loc} {ver:Nat→Nat} {w:World}
theorem xP (hI:Inv G H loc ver w) {k m:Nat} {it:Nat→List SV} (ho:hget H 0= .yst (some k) m it) (hs:G.itr.soft=true):softC m G.itr.sf w:=by
 obtain ⟨_,_,_,hn,_,_,hJ⟩:=hI.objs 0 _ (aC ho (by simp))
 have hn:m=G.itr.n:=hn
 rw[hn]
 exact G.itr.softJ hs _ _ _ hJ
theorem Er (hI:Inv G H loc ver w) {t:TypeId} {s:SV} {x:Value} {K:SV→Prop} (h:Kx P t H s K) (hs:Rel (envOf G H loc ver w) s x):
  ∃v s',(Instr.loadAt t x).run P w= .ok v w∧K s'∧Rel (envOf G H loc ver w) s' v:=by
 unfold Kx at h
 cases ha:aggB P t with
 | none=>rw[ha] at h;exact h.elim
 | some ag=>
 cases hz:cP P t with
 | none=>rw[ha,hz] at h;exact h.elim
 | some sz=>
 rw[ha,hz] at h
 simp only at h
 cases hs with
 | ptr nm off _ hn hp=>
  simp only at h
  cases ho:hget H nm with
  | cells l e=>
   rw[ho] at h
   have hO:=hI.objs nm _ (aC ho (by simp))
   obtain ⟨h0,b,vs,h1,h2,h3⟩:=hO
   obtain ⟨b',hb',rfl⟩:=hp h0
   have e1:(loc nm).blk=some (b',0):=hb'
   rw[h1] at e1;cases e1
   have:=eU (P:=P) (base:=0) (b:=b) h ha hz h3 (fun j v hj=>by simp[World.cell?,h2,hj])
   simpa [envOf] using this
  | _=>rw[ho] at h;exact h.elim
 | elem ty xs i o b off es hi hok hr hrd=>
  simp only[wR] at h
  have h':=hrd.giv h
  exact eU (P:=P) h' ha hz hrd.enc hr
 | lelem l i b off vs hl hok hr=>
  exact eU (P:=P) h ha hz hl hr
 | wcel n b e hw hok hr=>
  have hr':w.heap[b]? =some (.cells ⟨[.int .i64 n]⟩ e (0,0)):=hr
  have:=eU (P:=P) (base:=0) (b:=b) (E:=envOf G H loc ver w) (vs:=[.int .i64 n]) h ha hz (.cons _ _ _ _ (.val _ hw) .nil) (fun j v hj=>by
   have hr2:(envOf G H loc ver w).w.heap[b]? =some (.cells ⟨[.int .i64 n]⟩ e (0,0)):=hr
   cases j with
   | zero=>simp at hj;subst hj;simp[World.cell?,hr2]
   | succ j=>simp at hj)
  simpa [envOf] using this
 | vptr nm k i z o _ hn h0 hk hp=>
  simp only at h
  cases ho:hget H nm with
  | vec v ty xs e=>
   rw[ho] at h
   simp only at h
   cases hb:(Nat.beq v k&&Nat.beq z ty.size) with
   | false=>rw[hb] at h;exact h.elim
   | true=>
    rw[hb] at h
    simp only[cond_true] at h
    simp only[Bool.and_eq_true,aJ] at hb
    obtain ⟨rfl,rfl⟩:=hb
    have hO:=hI.objs nm _ (aC ho (by simp))
    have hv:ver nm=v:=hO.1
    obtain ⟨hlt,b,off,hbk,rfl⟩:=hp hv.symm
    obtain ⟨b',es,hb',hr,hrd⟩:=Ud hO hlt
    have e1:(loc nm).blk=some (b,off):=hbk
    rw[hb'] at e1;cases e1
    rw[wR] at h
    have h':=hrd.giv h
    exact eU (P:=P) h' ha hz hrd.enc hr
  | _=>rw[ho] at h;exact h.elim
 | sft i _ hon hv=>
  cases i with
  | none=>exact h.elim
  | some i=>
   simp only at h
   split at h
   case h_2=>exact h.elim
   rename_i k m it ho
   cases hb:(!ag&&Nat.beq sz 1) with
   | false=>rw[hb] at h;exact h.elim
   | true=>
   rw[hb] at h
   simp only[cond_true] at h
   obtain ⟨hlt,hK⟩:=h
   simp only[Bool.and_eq_true,Bool.not_eq_true',aJ] at hb
   obtain ⟨rfl,rfl⟩:=hb
   obtain ⟨_,_,hrow⟩:=xP hI ho hv.1
   obtain ⟨_,b,hb,rfl⟩:=hv
   rcases hrow with h0 | ⟨g,cur,e,fz,h1,_,h2,h3⟩
   ·omega
   ·have hb:G.itr.sf.blk=some (b,0):=hb
    have hgb:g=b:=by rw[h1] at hb;simpa using hb
    subst hgb
    have hc:w.cell? ⟨g,i,none⟩=some (cur[i]'(by omega)):=by simp[World.cell?,h2,show i<cur.size by omega]
    exact ⟨_,_,qG ha hc,hK,.any _⟩
 | _=>exact h.elim
end
end Go.Eng
end
section
namespace Go.Eng
open Go.RowKit
theorem and4 {a b c d:Bool} (h:(a&&b&&c&&d)=true):a=true∧b=true∧c=true∧d=true:=by simpa [and_assoc] using h
theorem aE {c:Bool} {p:Prop} (h:bif c then p else False):c=true∧p:=by
 cases c with
 | false=>exact h.elim
 | true=>exact ⟨rfl,h⟩
section
variable {P:Program} {G:Ctx} {H:List HO} {loc:Nat→Loc} {ver:Nat→Nat} {w:World}
theorem xQ (hI:Inv G H loc ver w) {s:SV} {v:Value} (h:Rel (envOf G H loc ver w) s v) (hc:oneC H s=true):v.oneCell'=true:=by
 cases h with
 | any=>cases hc
 | val v h=>cases v<;>first | rfl | cases hc
 | bl=>rfl
 | str=>rfl
 | seq t xs v h=>obtain ⟨a,n,c,e,_⟩:=h;cases e;rfl
 | lit=>rfl
 | elem=>rfl
 | lelem=>rfl
 | wcel=>rfl
 | num=>rfl
 | fmp=>rfl
 | ptr nm off v hn h=>
  simp only[oneC] at hc
  cases ho:hget H nm with
  | cells l e=>
   have hO:=hI.objs nm _ (aC ho (by simp))
   obtain ⟨b,_,rfl⟩:=h hO.1
   rfl
  | _=>rw[ho] at hc;cases hc
 | ref nm k v hn h0 hk h=>
  simp only[oneC] at hc
  cases ho:hget H nm with
  | vec j t xs e=>
   rw[ho] at hc
   obtain rfl:=aJ.1 hc
   have hO:=hI.objs nm _ (aC ho (by simp))
   rw[h hO.1.symm];rfl
  | fro j t xs=>
   rw[ho] at hc
   obtain rfl:=aJ.1 hc
   have hO:=hI.objs nm _ (aC ho (by simp))
   rw[h hO.1.symm];rfl
  | vv j s t xss pd eo ei=>
   rw[ho] at hc
   obtain rfl:=aJ.1 hc
   have hO:=hI.objs nm _ (aC ho (by simp))
   rw[h hO.1.symm];rfl
  | _=>rw[ho] at hc;cases hc
 | mp nm v hn h=>
  simp only[oneC] at hc
  cases ho:hget H nm with
  | map k t m=>
   have hO:=hI.objs nm _ (aC ho (by simp))
   obtain ⟨b,_,rfl⟩:=h hO.1
   rfl
  | qm ks l=>
   have hO:=hI.objs nm _ (aC ho (by simp))
   obtain ⟨b,_,rfl⟩:=h hO.1
   rfl
  | _=>rw[ho] at hc;cases hc
 | vptr=>cases hc
 | sub=>cases hc
 | subp=>cases hc
 | part=>cases hc
 | lim=>cases hc
 | ifc v h=>
  rcases h with rfl | ⟨t,x,rfl⟩
  ·rfl
  ·rfl
 | wide=>cases hc
 | agg=>cases hc
 | tup=>cases hc
 | clo=>rfl
 | yld=>rfl
 | sft=>cases hc
theorem Et {v:Value} (h:v.oneCell'=true):v.cells= #[v]:=by cases v<;>first | rfl | cases h
theorem jI (hI:Inv G H loc ver w) {s:SV} {v:Value} (h:Rel (envOf G H loc ver w) s v) (hc:wT H s=true):RelL (envOf G H loc ver w) (aP s) v.cells.toList:=by
 have key:oneC H s=true→aP s= [s]→RelL (envOf G H loc ver w) (aP s) v.cells.toList:=by
  intro h1 h2
  rw[h2,Et (xQ hI h h1)]
  exact .cons _ _ _ _ h .nil
 cases s with
 | agg l=>cases h with
  | agg _ vs hl=>exact hl
 | _=>exact key hc rfl
theorem uZ (hI:Inv G H loc ver w):∀ {l:List SV} {vs:List Value},RelL (envOf G H loc ver w) l vs→Nn H l=true→∀v∈vs,v.oneCell'=true
 | _,_,.nil,_=>by simp
 | _,_,.cons s v l vs h hl,hc=>by
  simp only[Nn,Bool.and_eq_true] at hc
  intro u hu
  rcases List.mem_cons.1 hu with rfl | hu
  ·exact xQ hI h hc.1
  ·exact uZ hI hl hc.2 u hu
theorem Hp (r l:List Value) (off:Nat) (h:off+r.length≤l.length):dN l off r=l.take off++r++l.drop (off+r.length):=by
 apply List.ext_getElem?
 intro i
 rw[pE r l off i h]
 by_cases h1:i<off
 ·rw[if_neg (by omega),List.append_assoc,List.getElem?_append_left (by simp;omega),List.getElem?_take,if_pos h1]
 ·by_cases h2:i<off+r.length
  ·rw[if_pos (by omega),List.append_assoc,List.getElem?_append_right (by simp;omega),List.getElem?_append_left (by simp;omega)]
   congr 1;simp;omega
  ·rw[if_neg (by omega),List.append_assoc,List.getElem?_append_right (by simp;omega),List.getElem?_append_right (by simp;omega),List.getElem?_drop]
   congr 1;simp;omega
theorem nZ {b off:Nat} {t e:TypeId} {sz:Nat} {cs:List Value} {v:Value} (hs:cP P t=some sz) (hb:w.heap[b]? =some (.cells ⟨cs⟩ e (0,0))) (hl:v.cells.toList.length=sz) (h1:∀u∈v.cells.toList,u.oneCell'=true) (hf:off+sz≤cs.length):
  (Instr.storeAt t (.pointer (some ⟨b,off,none⟩)) v).run P w= .ok () (w.setRow b ⟨dN cs off v.cells.toList⟩):=by
 have hst:=run_storeCells_at P b off e v.cells.toList 0 ⟨cs⟩ w hb (by simp at hl ⊢;omega) h1
 simp only[Nat.add_zero] at hst
 have e1:dN cs off v.cells.toList=cs.take off++v.cells.toList++cs.drop (off+v.cells.toList.length):=Hp _ _ _ (by omega)
 rw[e1]
 have hsz:¬v.cells.size≠sz:=by simpa using hl
 simp only[Instr.storeAt,Instr.sureAddr,storeVar,Sem.run_bind,Sem.run_pure,Result.andThen_ok,bY hs,if_neg hsz]
 simpa using hst
theorem Hq {b:Nat} {cs cs':Array Value} {e:TypeId} {f:Nat × Nat} (h:w.heap[b]? =some (.cells cs e f)) (hc:cs'=cs):w.setRow b cs'=w:=by
 subst hc
 unfold World.setRow
 congr 1
 apply Array.ext_getElem?
 intro i
 rw[Array.getElem?_modify]
 split
 ·rename_i e;subst e;rw[h];rfl
 ·rfl
theorem qH (hI:Inv G H loc ver w) {t:TypeId} {s x:SV} {p v:Value} {K:List HO→Prop} (h:wF P t H s x K) (hp:Rel (envOf G H loc ver w) s p) (hx:Rel (envOf G H loc ver w) x v):
  ∃H' w',(Instr.storeAt t p v).run P w= .ok () w'∧K H'∧Inv G H' loc ver w'∧Ext (envOf G H loc ver w) (envOf G H' loc ver w'):=by
 unfold wF at h
 cases hz:cP P t with
 | none=>rw[hz] at h;cases hp<;>exact h.elim
 | some sz=>
 rw[hz] at h
 cases hp with
 | ptr nm off _ hn hp=>
  simp only at h
  cases ho:hget H nm with
  | cells l e=>
   rw[ho] at h
   obtain ⟨hb,h⟩:=aE h
   simp only[aL] at h
   obtain ⟨b1,b2,b3,b4⟩:=and4 hb
   have hn':=aC ho (by simp)
   obtain ⟨h0,b,vs,h1,h2,h3⟩:=hI.objs nm _ hn'
   obtain ⟨b',hb',rfl⟩:=hp h0
   have e1:(loc nm).blk=some (b',0):=hb'
   rw[h1] at e1;cases e1
   have hcx:=jI hI hx b1
   have hlen:=hcx.length
   have hlv:=h3.length
   have b3':=aJ.1 b3
   have b4':=Nat.le_of_ble_eq_true b4
   have hrun:=nZ (P:=P) (w:=w) (v:=v) (off:=off) hz h2 (by omega) (uZ hI hcx b2) (by omega)
   have hin:=hI.inPlace (w':=w.setRow b ⟨dN vs off v.cells.toList⟩) (o':=.cells (setCells l off (aP x)) e) hn' (b:=b) (by simp[Owns,h1]) (fun _ h=>h) (by simp) rfl rfl rfl (fun b' hb'=>setRow_other w b b' _ hb')
    (fun hx'=>⟨h0,b,_,h1,setRow_heap w b _ _ e _ h2,(h3.ext hx').setCells (hcx.ext hx') off⟩)
   exact ⟨_,_,hrun,h,hin.1,hin.2⟩
  | _=>rw[ho] at h;exact h.elim
 | vptr nm k i z o _ hn h0 hk hp=>
  simp only at h
  cases ho:hget H nm with
  | vec j ty xs e=>
   rw[ho] at h
   simp only at h
   obtain ⟨hb,h'⟩:=aE h
   rw[wR] at h'
   obtain ⟨hk2,hK⟩:=aE h'
   cases hd:dec ty (setCells (enc ty (xs.getD i ty.dflt)) o (aP x)) with
   | none=>rw[hd] at hK;exact hK.elim
   | some y=>
   rw[hd] at hK
   simp only[aL] at hK
   simp only[Bool.and_eq_true,aJ,Nat.ble_eq] at hb
   obtain ⟨⟨⟨⟨b1,rfl⟩,rfl⟩,b3⟩,b4⟩:=hb
   have hn':=aC ho (by simp)
   have hO:=hI.objs nm _ hn'
   obtain ⟨hv,hk0,hlen,hmax,vs,hown,hel⟩:=hO
   have hv':ver nm=j:=hv
   obtain ⟨hlt,b,off,hbk,rfl⟩:=hp hv'.symm
   have hbk':(loc nm).blk=some (b,off):=hbk
   have hlt':i<(loc nm).len:=hlt
   rcases aO hown with ⟨e1,_⟩ | ⟨g,cur,e1,e2,e3,e4,e5,e6,e7⟩
   ·rw[hbk'] at e1;cases e1
   rw[hbk'] at e1;cases e1
   have hcx:=jI hI hx b1
   have hcl:=hcx.length
   have hes:=hel i hlt'
   have hesl:=hes.length
   have hnew:RelL (envOf G H loc ver w) (setCells (enc ty (xs.getD i ty.dflt)) o (aP x)) (dN ((vs.drop (i*ty.size)).take ty.size) o v.cells.toList):=(hes.enc).setCells hcx o
   have hrd:=lD hnew hd hk2
   have hvl:vs.length=(loc nm).len*ty.size:=hown.1
   have hmul:i*ty.size+ty.size≤(loc nm).len*ty.size:=by
    have:(i+1)*ty.size≤(loc nm).len*ty.size:=Nat.mul_le_mul_right _ hlt'
    rwa [Nat.add_mul,Nat.one_mul] at this
   have hcurl:(loc nm).cap*ty.size≤cur.toList.length:=by simpa using e6
   have hcap:(loc nm).len*ty.size≤(loc nm).cap*ty.size:=Nat.mul_le_mul_right _ e4
   have hones:∀u∈v.cells.toList,u.oneCell'=true:=by
    intro u hu
    apply hrd.one
    obtain ⟨q,hq,rfl⟩:=List.getElem_of_mem hu
    have hg:=pE v.cells.toList ((vs.drop (i*ty.size)).take ty.size) o (o+q) (by rw[hesl];omega)
    rw[if_pos (by omega)] at hg
    have e9:o+q-o=q:=by omega
    rw[e9,List.getElem?_eq_getElem hq] at hg
    exact List.mem_of_getElem? hg
   have hcur:w.heap[b]? =some (.cells ⟨cur.toList⟩ e (0,0)):=e3
   have hrun:=nZ (P:=P) (w:=w) (v:=v) (off:=0+i*ty.size+o) hz hcur (by omega) hones (by omega)
   have hset:∀m,(dN cur.toList (0+i*ty.size+o) v.cells.toList)[m]? =if i*ty.size+o≤m∧m<i*ty.size+o+v.cells.toList.length then v.cells.toList[m-(i*ty.size+o)]? else cur.toList[m]? :=by
    intro m
    rw[pE _ _ _ _ (by omega)]
    simp only[Nat.zero_add]
   have hin:=hI.inPlace (w':=w.setRow b ⟨dN cur.toList (0+i*ty.size+o) v.cells.toList⟩) (o':=.vec j ty (xs.set i y) e) hn' (b:=b) (by simp[Owns,hbk']) (fun _ h=>h) (by simp) rfl rfl rfl (fun b' hb'=>setRow_other w b b' _ hb')
    (fun hx'=>by
     refine ⟨hv,hk0,by simpa using hlen,hmax,(dN cur.toList (0+i*ty.size+o) v.cells.toList).take ((loc nm).len*ty.size),?_,?_⟩
     ·refine ⟨by rw[List.length_take,mC];omega,.inr ⟨b,(loc nm).cap,_,?_,Nat.zero_le _,setRow_heap w b _ _ e _ hcur,e4,e5,?_,rfl⟩⟩
      ·simp[Core.head,hbk']
      ·show _≤(dN cur.toList _ _).length
       rw[mC];exact hcurl
     ·intro m hm
      have hm2:m*ty.size+ty.size≤(loc nm).len*ty.size:=by
       have:(m+1)*ty.size≤(loc nm).len*ty.size:=Nat.mul_le_mul_right _ hm
       rwa [Nat.add_mul,Nat.one_mul] at this
      by_cases e:m=i
      ·subst e
       have e10:(((dN cur.toList (0+m*ty.size+o) v.cells.toList).take ((loc nm).len*ty.size)).drop (m*ty.size)).take ty.size=dN ((vs.drop (m*ty.size)).take ty.size) o v.cells.toList:=by
        apply List.ext_getElem?
        intro q
        rw[pE _ _ _ _ (by rw[hesl];omega),List.getElem?_take,List.getElem?_drop,List.getElem?_take,hset,← e7]
        by_cases hq:q<ty.size
        ·rw[if_pos hq,if_pos (by omega)]
         by_cases hq2:o≤q∧q<o+v.cells.toList.length
         ·rw[if_pos (by omega),if_pos hq2]
          congr 1;omega
         ·rw[if_neg (by omega),if_neg hq2,List.getElem?_take,if_pos hq,List.getElem?_drop,List.getElem?_take,if_pos (by omega)]
        ·rw[if_neg hq,if_neg (by omega),List.getElem?_take,if_neg hq]
       rw[e10]
       have e11:List.getD (α:=ty.T) (xs.set m y) m ty.dflt=y:=by
        have:m<xs.length:=by rw[← hlen];exact hlt'
        simp[List.getD_eq_getElem?_getD,this]
       rw[e11]
       exact hrd.mono hx'.cell hx'.ok
      ·have e10:(((dN cur.toList (0+i*ty.size+o) v.cells.toList).take ((loc nm).len*ty.size)).drop (m*ty.size)).take ty.size=(vs.drop (m*ty.size)).take ty.size:=by
        apply List.ext_getElem?
        intro q
        rw[List.getElem?_take,List.getElem?_drop,List.getElem?_take,hset,← e7,List.getElem?_take,List.getElem?_drop,List.getElem?_take]
        by_cases hq:q<ty.size
        ·have c1:m*ty.size+q<(loc nm).len*ty.size:=by omega
         have c2:¬(i*ty.size+o≤m*ty.size+q∧m*ty.size+q<i*ty.size+o+v.cells.toList.length):=by
          intro hc
          rcases Nat.lt_or_gt_of_ne e with h1 | h1
          ·have:(m+1)*ty.size≤i*ty.size:=Nat.mul_le_mul_right _ h1
           rw[Nat.add_mul,Nat.one_mul] at this;omega
          ·have:(i+1)*ty.size≤m*ty.size:=Nat.mul_le_mul_right _ h1
           rw[Nat.add_mul,Nat.one_mul] at this;omega
         rw[if_pos hq,if_pos c1,if_neg c2,if_pos hq,if_pos c1]
        ·rw[if_neg hq,if_neg hq]
       rw[e10]
       have e11:List.getD (α:=ty.T) (xs.set i y) m ty.dflt=xs.getD m ty.dflt:=by
        simp[List.getD_eq_getElem?_getD,List.getElem?_set,Ne.symm e]
       rw[e11]
       exact (hel m hm).mono hx'.cell hx'.ok)
   exact ⟨_,_,hrun,hK,hin.1,hin.2⟩
  | _=>rw[ho] at h;exact h.elim
 | wcel n b e hw hok hr=>
  simp only at h
  split at h
  case h_2=>exact h.elim
  rename_i m
  obtain ⟨hb,hm,hK⟩:=aE h
  have hb:=aJ.1 hb
  subst hb hm
  cases hx with
  | val _ _=>
  have hr':w.heap[b]? =some (.cells ⟨[.int .i64 m]⟩ e (0,0)):=hr
  have hrun:=nZ (P:=P) (w:=w) (v:=.int .i64 m) (off:=0) hz hr' (by simp[Value.cells]) (by intro u hu;simp[Value.cells] at hu;subst hu;rfl) (by simp)
  exact ⟨_,_,hrun,by rw[Hq hr' (by simp[Value.cells,dN])];exact ⟨hK,hI,Ext.refl _⟩⟩
 | _=>exact h.elim
theorem lH (hI:Inv G H loc ver w) {nm off:Nat} {p:Value} (hp:Rel (envOf G H loc ver w) (.ptr nm off) p) (hl:live H (.ptr nm off)=true):∃b,(loc nm).blk=some (b,0)∧p= .pointer (some ⟨b,off,none⟩):=by
 cases hp with
 | ptr nm off _ hn hp=>
  simp only[live] at hl
  cases ho:hget H nm with
  | cells l e=>exact hp (hI.objs nm _ (aC ho (by simp))).1
  | _=>rw[ho] at hl;cases hl
theorem vA {t:TypeId} {f fo sz:Nat} {ag:Bool} (h:oZ P t f=some (fo,sz,ag)):
  ∃fs fd,P.underlying t=some (.struct fs)∧fs[f]? =some fd∧fd.offset=fo∧cP P fd.type=some sz∧aggB P fd.type=some ag:=by
 unfold oZ at h
 split at h
 ·rename_i fs hu
  split at h
  ·rename_i fd hf
   split at h
   ·rename_i s a hs ha
    cases h
    exact ⟨fs,fd,hu,hf,rfl,hs,ha⟩
   ·cases h
  ·cases h
 ·cases h
theorem iQ {t:TypeId} {f fo sz b off:Nat} {ag:Bool} (h:oZ P t f=some (fo,sz,ag)) (h0:0<sz):(Instr.fieldAt t (.pointer (some ⟨b,off,none⟩)) f).run P w= .ok (.pointer (some ⟨b,off+fo,none⟩)) w:=by
 obtain ⟨fs,fd,hu,hf,rfl,hs,ha⟩:=vA h
 have:¬sz=0:=by omega
 simp[Instr.fieldAt,run_underlying hu,hf,Instr.sureAddr,fieldPlace,bY hs,this,Addr.add_mid]
theorem Ri {E:Env} {t:TypeId} {f fo sz:Nat} {ag:Bool} {cs:List SV} {vs:List Value} {K:SV→Prop} (hf:oZ P t f=some (fo,sz,ag)) (hl:RelL E cs vs)
  (h:fD ag fo sz cs K):∃v s,(Instr.field t (.agg ⟨vs⟩) f).run P w= .ok v w∧K s∧Rel E s v:=by
 obtain ⟨fs,fd,hu,hf',rfl,hs,ha⟩:=vA hf
 cases ag with
 | true=>
  obtain ⟨hb,h⟩:=aE h
  rw[aL] at h
  refine ⟨_,_,?_,h,.agg _ _ ((hl.drop fd.offset).take sz)⟩
  simp[Instr.field,run_underlying hu,hf',asAgg,part,lG ha,bY hs]
 | false=>
  obtain ⟨hb,h⟩:=aE h
  rw[dB] at h
  have hlt:fd.offset<cs.length:=by simpa using hb
  have hlt':fd.offset<vs.length:=by rw[← hl.length];exact hlt
  refine ⟨_,_,?_,h,hl.get _ hlt⟩
  simp[Instr.field,run_underlying hu,hf',asAgg,part,lG ha,hlt']
theorem Rj {E:Env} {t e:TypeId} {n:Nat} {kk:IntKind} {j:Int} {sz:Nat} {ag:Bool} {cs:List SV} {vs:List Value} {K:SV→Prop} (hu:P.underlying t=some (.array n e)) (ha:aggB P e=some ag) (hs:cP P e=some sz) (hb:0≤j∧j<n) (hl:RelL E cs vs)
  (h:fD ag (j.toNat*sz) sz cs K):∃v s,(Instr.index t (.agg ⟨vs⟩) (.int kk j)).run P w= .ok v w∧K s∧Rel E s v:=by
 cases ag with
 | true=>
  obtain ⟨hb',h⟩:=aE h
  rw[aL] at h
  refine ⟨_,_,?_,h,.agg _ _ ((hl.drop (j.toNat*sz)).take sz)⟩
  simp[Instr.index,asIntOf,run_underlying hu,hb.1,hb.2,part,lG ha,bY hs]
 | false=>
  obtain ⟨hb',h⟩:=aE h
  rw[dB] at h
  have hlt:j.toNat*sz<cs.length:=by simpa using hb'
  have hlt':j.toNat*sz<vs.length:=by rw[← hl.length];exact hlt
  refine ⟨_,_,?_,h,hl.get _ hlt⟩
  simp[Instr.index,asIntOf,run_underlying hu,hb.1,hb.2,part,lG ha,bY hs,hlt']
theorem bF {t e:TypeId} (h:bK P t=some e):P.underlying t=some (.slice e):=by
 unfold bK at h
 split at h
 ·rename_i e' hu;cases h;exact hu
 ·cases h
theorem iS {t e:TypeId} {sz b off n c:Nat} {k:IntKind} {i:Int} (he:bK P t=some e) (hs:cP P e=some sz) (h:0≤i∧i<n):
  (Instr.indexAt t (.slice (some ⟨b,off,none⟩) n c) (.int k i)).run P w= .ok (.pointer (some ⟨b,off+i.toNat*sz,none⟩)) w:=by
 simp[Instr.indexAt,asIntOf,run_underlying (bF he),bY hs,h.1,h.2,Addr.add_mid]
theorem Eu (hI:Inv G H loc ver w) {t:TypeId} {x i:SV} {p q:Value} {K:SV→Prop} (h:Lb P t H x i K) (hx:Rel (envOf G H loc ver w) x p) (hi:Rel (envOf G H loc ver w) i q):
  ∃v s,(Instr.indexAt t p q).run P w= .ok v w∧K s∧Rel (envOf G H loc ver w) s v:=by
 unfold Lb at h
 split at h
 ·rename_i n e nm off k j ha
  obtain ⟨rfl,_⟩:=hi.int_inv
  split at h
  ·rename_i sz hs
   obtain ⟨hlv,h⟩:=aE h
   obtain ⟨⟨h1,h2⟩,h3⟩:=h
   have h3:=h3.use h1
   have hu:P.underlying t=some (.array n e):=by
    unfold aBr at ha
    split at ha
    ·rename_i hu;cases ha;exact hu
    ·cases ha
   cases hx with
   | ptr _ _ _ hn hp=>
    have hv0:ver nm=0:=by
     simp only[live] at hlv
     split at hlv
     ·rename_i l e' ho
      exact (hI.objs nm _ (aC ho (by simp))).1
     ·cases hlv
    obtain ⟨b,hb,rfl⟩:=hp hv0
    refine ⟨.pointer (some ⟨b,off+j.toNat*sz,none⟩),_,?_,h3,.ptr nm _ _ hn fun _=>⟨b,hb,rfl⟩⟩
    simp[Instr.indexAt,asIntOf,run_underlying hu,Instr.sureAddr,go_sem,h1,h2,bY hs,Addr.add]
  ·exact h.elim
 ·exact h.elim
theorem Az (hI:Inv G H loc ver w) {t:TypeId} {x i:SV} {p q:Value} {K:SV→Prop} (h:Dr P t H x i K) (hx:Rel (envOf G H loc ver w) x p) (hi:Rel (envOf G H loc ver w) i q):
  ∃v s,(Instr.indexAt t p q).run P w= .ok v w∧K s∧Rel (envOf G H loc ver w) s v:=by
 unfold Dr at h
 split at h
 ·rename_i e k n he
  obtain ⟨rfl,_⟩:=hi.int_inv
  split at h
  ·rename_i sz hs
   have hseq:∀(ty:Ty) (xs:List ty.T) (p:Value),Reads w (okN G H loc w) (.slice ty) xs [p]→sz=ty.size→(0≤n∧n<xs.length)→K (.elem ty xs n.toNat 0)→∃v s,(Instr.indexAt t p (.int k n)).run P w= .ok v w∧K s∧Rel (envOf G H loc ver w) s v:=by
    intro ty xs p hr hsz hb hk
    obtain ⟨a,m,c,e1,hm,hmc,hmx,hall⟩:=hr
    cases e1
    have hm':m=xs.length:=hm
    obtain ⟨b,off,rfl,hok,hel⟩:=hall (by omega)
    obtain ⟨es,h1,h2,h3⟩:=hel n.toNat (by omega)
    refine ⟨_,_,iS he hs ⟨hb.1,by omega⟩,hk,?_⟩
    rw[hsz]
    have:=Rel.elem (E:=envOf G H loc ver w) ty xs n.toNat 0 b (off+n.toNat*ty.size) es (by omega) hok h2 h3
    simpa using this
   split at h
   ·rename_i ty xs
    obtain ⟨hb,h⟩:=aE h
    cases hx with
    | seq _ _ _ hr=>exact hseq ty xs p hr (aJ.1 hb) h.ok (h.go.use h.ok.1)
   ·rename_i es l
    obtain ⟨hb,h⟩:=aE h
    have hb:=aJ.1 hb
    subst hb
    cases hx with
    | lit _ m b off _ vs hl hn hok hr=>
     rw[Dp] at h
     obtain ⟨⟨h1,h2⟩,h3⟩:=h
     have h2:n.toNat*sz<l.length:=by
      obtain ⟨j,rfl⟩:=Int.eq_ofNat_of_zero_le h1
      rw[Int.toNat_natCast]
      have h2':((j*sz:Nat):Int)<0+(l.length:Int):=by simpa using h2
      omega
     have hlt:n<m:=by
      rw[hl.length,hn] at h2
      have:n.toNat<m:=Nat.lt_of_mul_lt_mul_right h2
      omega
     exact ⟨_,_,iS he hs ⟨h1,hlt⟩,h3,.lelem _ _ _ _ _ hl hok hr⟩
   ·split at h
    case h_2=>exact h.elim
    rename_i k' m it ho
    obtain ⟨hb,h⟩:=aE h
    have hb:=aJ.1 hb
    subst hb
    obtain ⟨⟨h1,h2⟩,h3⟩:=h
    have h3:=h3.use h1
    cases hx with
    | sft _ _ hon hv=>
     obtain ⟨hl,_,hrow⟩:=xP hI ho hv.1
     have hv2:p=G.itr.sf.head:=hv.2
     subst hv2
     rcases hrow with h0 | ⟨g,cur,e',fz,e1,e2,_⟩
     ·omega
     ·have hrun:=iS (P:=P) (w:=w) (b:=g) (off:=0) (n:=G.itr.sf.len) (c:=G.itr.sf.cap) (k:=k) (i:=n) he hs ⟨h1,by omega⟩
      refine ⟨.pointer (some ⟨g,0+n.toNat*1,none⟩),_,?_,h3,?_⟩
      ·simp only[Core.head,e1,Option.map_some];exact hrun
      ·exact .sft _ _ hon ⟨hv.1,g,e1,by simp⟩
   ·rename_i nm k'
    split at h
    ·rename_i j ty xs e' ho
     obtain ⟨hb,hK⟩:=aE h
     simp only[Bool.and_eq_true,aJ] at hb
     obtain ⟨rfl,hsz⟩:=hb
     cases hx with
     | ref _ _ _ hn h0 hk hv=>
      have hO:=hI.objs nm _ (aC ho (by simp))
      have hvj:ver nm=j:=hO.1
      have:=hv hvj.symm
      subst this
      obtain ⟨_,_,hlen,hmax,vs,hown,hel⟩:=hO
      obtain ⟨⟨h1,h2⟩,h3⟩:=hK
      have h3:=h3.use h1
      have hlen':(loc nm).len=xs.length:=hlen
      rcases aO hown with ⟨_,_,e2,_⟩ | ⟨g,cur,e1,e2,_⟩
      ·omega
      ·have hrun:=iS (P:=P) (w:=w) (b:=g) (off:=0) (n:=(loc nm).len) (c:=(loc nm).cap) (k:=k) (i:=n) he hs ⟨h1,by omega⟩
       refine ⟨.pointer (some ⟨g,0+n.toNat*sz,none⟩),_,?_,h3,?_⟩
       ·show (Instr.indexAt t (Core.head (loc nm).toCore) _).run P w= _
        simp only[Core.head,e1,Option.map_some];exact hrun
       ·refine .vptr nm j _ sz 0 _ hn h0 hk fun _=>⟨?_,g,0,e1,by simp⟩
        show n.toNat<(loc nm).len
        omega
    ·rename_i j ty xs ho
     obtain ⟨hb,hK⟩:=aE h
     simp only[Bool.and_eq_true,aJ] at hb
     obtain ⟨rfl,hsz⟩:=hb
     cases hx with
     | ref _ _ _ hn h0 hk hv=>
      have hO:=hI.objs nm _ (aC ho (by simp))
      have hvj:ver nm=j:=hO.1
      have:=hv hvj.symm
      subst this
      exact hseq ty xs _ hO.2.2 hsz hK.ok (hK.go.use hK.ok.1)
    ·exact h.elim
   ·rename_i nm k' a b z
    split at h
    ·rename_i j ty xs e' ho
     obtain ⟨hb,hK⟩:=aE h
     simp only[Bool.and_eq_true,aJ] at hb
     obtain ⟨rfl,hsz,rfl⟩:=hb
     cases hx with
     | part _ _ _ _ _ _ hn h0 hk hv=>
      have hO:=hI.objs nm _ (aC ho (by simp))
      have hvj:ver nm=j:=hO.1
      obtain ⟨hab,hbl,hv⟩:=hv hvj.symm
      subst hv
      obtain ⟨_,_,hlen,hmax,vs,hown,hel⟩:=hO
      obtain ⟨⟨h1,h2⟩,h3⟩:=hK
      have h3:=h3.use h1
      have hbl':b≤(loc nm).len:=hbl
      rcases aO hown with ⟨_,_,e2,_⟩ | ⟨g,cur,e1,e2,_,hcp,_⟩
      ·omega
      ·have hc:¬(loc nm).cap=a:=by omega
       have hrun:=iS (P:=P) (w:=w) (b:=g) (off:=0+a*z) (n:=b-a) (c:=(loc nm).cap-a) (k:=k) (i:=n) he hs ⟨h1,h2⟩
       refine ⟨.pointer (some ⟨g,0+a*z+n.toNat*z,none⟩),_,?_,h3,?_⟩
       ·show (Instr.indexAt t (.slice (if (loc nm).cap=a then (loc nm).blk.map (fun p=>(⟨p.1,p.2,none⟩:Addr)) else ((loc nm).blk.map fun p=>(⟨p.1,p.2,none⟩:Addr)).map (·.add (a*z))) (b-a) ((loc nm).cap-a)) _).run P w= _
        rw[if_neg hc,e1]
        simp only[Option.map_some]
        show (Instr.indexAt t (.slice (some (Addr.add ⟨g,0,none⟩ (a*z))) (b-a) ((loc nm).cap-a)) _).run P w= _
        rw[show Addr.add ⟨g,0,none⟩ (a*z)=(⟨g,0+a*z,none⟩:Addr) by simp only[Addr.add];split<;>simp_all]
        exact hrun
       ·refine .vptr nm j _ z 0 _ hn h0 hk fun _=>⟨?_,g,0,e1,?_⟩
        ·show a+n.toNat<(loc nm).len
         omega
        ·rw[Nat.add_mul,Nat.zero_add,Nat.zero_add,Nat.add_zero]
    ·exact h.elim
   ·exact h.elim
  ·exact h.elim
 ·exact h.elim
end
end Go.Eng
end
section
namespace Go.Eng
open Go.RowKit
theorem Ty.size_pos (t:Ty):0<t.size:=by
 induction t with
 | pair a b iha ihb=>simp[Ty.size];omega
 | _=>simp[Ty.size]
theorem dV (w:World) (o:Obj):(w.alloc o).heap[w.heap.size]? =some o:=by
 show (w.heap.push o)[w.heap.size]? =some o
 simp
theorem xR {α:Type} (a b:List α) (n k:Nat) (h:a.length=n):(a++b).drop (n+k)=b.drop k:=by
 subst h
 apply List.ext_getElem?
 intro i
 rw[List.getElem?_drop,List.getElem?_drop,List.getElem?_append_right (by omega)]
 congr 1
 omega
section
variable {P:Program} {G:Ctx} {H:List HO} {loc:Nat→Loc} {ver:Nat→Nat} {w:World}
theorem oA (hI:Inv G H loc ver w) {z:List SV} {vs:List Value} (hz:RelL (envOf G H loc ver w) z vs) (t:TypeId) {K:SV→List HO→Prop} (h:mA H (.cells z t) K):
  Res G (envOf G H loc ver w) K (.pointer (some ⟨w.heap.size,0,none⟩)) (w.alloc (.cells ⟨vs⟩ t)):=by
 simp only[mA,aL] at h
 have hf:=hI.fresh (w':=w.alloc (.cells ⟨vs⟩ t)) (.cells z t) (mkL (some (w.heap.size,0)) (0) (0)) 0 (by simp) rfl rfl rfl (fun b hb=>Below.heap_alloc w _ b hb) (by intro b hb;simp[Owns] at hb;omega)
  (fun hx=>⟨rfl,w.heap.size,vs,rfl,dV w _,hz.ext hx⟩)
 refine ⟨_,_,_,_,h,hf.1,?_,hf.2⟩
 refine .ptr _ _ _ (by exact eC rfl) fun _=>⟨w.heap.size,?_,rfl⟩
 simp[envOf,aG]
theorem pK {t:TypeId} {v:Value} (h:(zeroValue t).run P w= .ok v w):(Instr.alloc t true (.tuple #[])).run P w= .ok (.pointer (some ⟨w.heap.size,0,none⟩)) (w.alloc (.cells v.cells t)):=by
 simp[Instr.alloc,h,newVar,newRow]
theorem On {t:TypeId} {v:Value}:(Instr.box t v).run P w= .ok (.pointer (some ⟨w.heap.size,0,none⟩)) (w.alloc (.cells v.cells t)):=by
 simp[Instr.box,newVar,newRow]
inductive RelP (E:Env):List (Nat × SV)→List (Nat × Value)→Prop
 | nil:RelP E [] []
 | cons (i:Nat) (s:SV) (v:Value) (l:List (Nat × SV)) (vs:List (Nat × Value)) (h:RelL E (aP s) v.cells.toList) (h':Rel E s v) (hl:RelP E l vs):RelP E ((i,s)::l) ((i,v)::vs)
theorem Bo (hI:Inv G H loc ver w) {N:Nat} {l:List (Nat × SV)} {a:Act} (hT:TRel (envOf G H loc ver w) N l a) (ps:List (Nat × Operand)) (h:kH H (ps.map fun p=>(p.1,ev l p.2))=true):
  RelP (envOf G H loc ver w) (ps.map fun p=>(p.1,ev l p.2)) (ps.map fun p=>(p.1,a.eval p.2)):=by
 induction ps with
 | nil=>exact .nil
 | cons p r ih=>
  simp only[List.map_cons,kH,Bool.and_eq_true] at h
  exact .cons _ _ _ _ _ (jI hI (fO hT p.2) h.1) (fO hT p.2) (ih h.2)
theorem Hr (r:List Value):∀(cells:Array Value) (off k:Nat),(r.zipIdx k).foldl (fun cs (x:Value × Nat)=>cs.setIfInBounds (off+x.2) x.1) cells= ⟨dN cells.toList (off+k) r⟩:=by
 induction r with
 | nil=>intro cells off k;rfl
 | cons v r ih=>
  intro cells off k
  simp only[List.zipIdx_cons,List.foldl_cons]
  rw[ih]
  simp[dN,Nat.add_assoc]
theorem Bp (cells v:Array Value) (off:Nat):v.zipIdx.foldl (fun cs (x:Value × Nat)=>cs.setIfInBounds (off+x.2) x.1) cells= ⟨dN cells.toList off v.toList⟩:=by
 rw[← Array.foldl_toList,Array.toList_zipIdx,Hr];rfl
theorem qU {E:Env} {pl:List (Nat × Nat)} {place:Nat→Option (Nat × Nat)} (hpl:∀i p,pl[i]? =some p→place i=some p):∀ {parts:List (Nat × SV)} {vs:List (Nat × Value)},RelP E parts vs→∀ {zc l:List SV} {cells:Array Value},jS pl zc parts=some l→RelL E zc cells.toList→
  ∃cells',Instr.fill place cells vs=some cells'∧RelL E l cells'.toList
 | _,_,.nil,zc,l,cells,h,hz=>by simp[jS] at h;subst h;exact ⟨cells,rfl,hz⟩
 | _,_,.cons i s v r vs hc _ hl,zc,l,cells,h,hz=>by
  simp only[jS] at h
  cases hp:pl[i]? with
  | none=>rw[hp] at h;cases h
  | some p=>
   obtain ⟨off,sz⟩:=p
   rw[hp] at h
   simp only at h
   cases hb:(Nat.beq (aP s).length sz&&Nat.ble (off+sz) zc.length) with
   | false=>rw[hb] at h;cases h
   | true=>
    rw[hb] at h
    simp only[cond_true] at h
    simp only[Bool.and_eq_true,aJ,Nat.ble_eq] at hb
    have h1:=hc.length
    have h2:=hz.length
    simp at h1 h2
    obtain ⟨cells',h3,h4⟩:=qU hpl (cells:=⟨dN cells.toList off v.cells.toList⟩) hl h (hz.setCells hc off)
    refine ⟨cells',?_,h4⟩
    simp only[Instr.fill,hpl _ _ hp]
    rw[if_neg (by simp;omega),Bp]
    exact h3
theorem Hs (fs:List Field):∀ {pl:List (Nat × Nat)},Dt P fs=some pl→(fs.mapM fun f=>(Prod.mk f.offset <$>sizeOf f.type:Sem (Nat × Nat))).run P w= .ok pl w:=by
 induction fs with
 | nil=>intro pl h;cases h;simp[List.mapM_nil]
 | cons f r ih=>
  intro pl h
  simp only[Dt] at h
  split at h
  ·rename_i sz l hs hl
   cases h
   rw[List.mapM_cons]
   simp[bY hs,ih hl]
  ·cases h
theorem vB:∀(cs z:List SV) (o:Nat),o+cs.length≤z.length→setCells z o cs=z.take o++cs++z.drop (o+cs.length)
 | [],z,o,_=>by simp[setCells]
 | v::r,z,o,h=>by
  rw[List.length_cons] at h
  have ho:o<z.length:=by omega
  rw[setCells,vB r (z.set o v) (o+1) (by rw[List.length_set];omega)]
  have e1:(z.set o v).take (o+1)=z.take o++ [v]:=by
   rw[List.take_succ_eq_append_getElem (by rw[List.length_set];exact ho)]
   simp[List.take_set_of_le]
  have e2:(z.set o v).drop (o+1+r.length)=z.drop (o+(v::r).length):=by
   rw[List.drop_set_of_lt (by omega),List.length_cons]
   congr 1
   omega
  rw[e1,e2]
  simp
theorem Ht {pl:List (Nat × Nat)}:∀(parts:List (Nat × SV)) (o:Nat) (l z:List SV),Gq pl o parts=some l→o+l.length≤z.length→jS pl z parts=some (z.take o++l++z.drop (o+l.length))
 | [],o,l,z,h,_=>by
  simp only[Gq,Option.some.injEq] at h
  subst h
  simp[jS]
 | (i,v)::r,o,l,z,h,hl=>by
  unfold Gq at h
  split at h
  ·rename_i off sz hp
   obtain ⟨hb,h⟩:(Nat.beq off o&&Nat.beq (aP v).length sz)=true∧ _:=by
    cases hc:(Nat.beq off o&&Nat.beq (aP v).length sz) with
    | false=>rw[hc,cond_false] at h;cases h
    | true=>rw[hc,cond_true] at h;exact ⟨rfl,h⟩
   rw[Bool.and_eq_true] at hb
   have h1:=Nat.eq_of_beq_eq_true hb.1
   have h2:=Nat.eq_of_beq_eq_true hb.2
   subst h1
   split at h
   ·rename_i l' hc
    cases h
    rw[List.length_append] at hl
    have hs:=vB (aP v) z off (by omega)
    have hn:(setCells z off (aP v)).length=z.length:=vY _ _ _
    unfold jS
    rw[hp]
    dsimp only
    have hb2:(Nat.beq (aP v).length sz&&Nat.ble (off+sz) z.length)=true:=by
     rw[Bool.and_eq_true]
     exact ⟨hb.2,Nat.ble_eq_true_of_le (by omega)⟩
    rw[hb2,cond_true,Ht r (off+sz) l' (setCells z off (aP v)) hc (by omega)]
    rw[hs,← h2]
    have ht:(List.take off z).length=off:=by rw[List.length_take];omega
    congr 1
    rw[List.take_append_of_le_length (by rw[List.length_append,ht];omega),List.take_of_length_le (by rw[List.length_append,ht];omega)]
    rw[show off+(aP v).length+l'.length=(List.take off z++aP v).length+l'.length by rw[List.length_append,ht],List.drop_append,List.drop_drop]
    simp[Nat.add_assoc,ht]
   ·cases h
  ·cases h
theorem Ue (pl:List (Nat × Nat)) (z:List SV) (parts:List (Nat × SV)):Td pl z parts=jS pl z parts:=by
 unfold Td
 split
 ·rename_i l hl
  cases hb:Nat.beq l.length z.length with
  | false=>rfl
  | true=>
   have e:=Nat.eq_of_beq_eq_true hb
   rw[cond_true,Ht parts 0 l z hl (by omega),e]
   simp
 ·rfl
theorem Ba {E:Env} (hw:E.w=w) {t:TypeId} {parts:List (Nat × SV)} {vs:List (Nat × Value)} {K:SV→Prop} (h:Du P t parts K) (hp:RelP E parts vs):
  ∃v s,(Instr.build t vs.toArray).run P w= .ok v w∧K s∧Rel E s v:=by
 unfold Du at h
 split at h
 ·rename_i fs z hu hz
  split at h
  ·rename_i pl hpl
   split at h
   ·rename_i l hl
    rw[dQ] at h
    rw[Ue] at hl
    obtain ⟨zv,hzv,rfl⟩:=gQ hz w
    obtain ⟨cells',h1,h2⟩:=qU (place:=fun i=>pl[i]?) (fun _ _ h=>h) (cells:=zv.cells) hp hl (iP E _)
    refine ⟨_,_,?_,h,.agg _ _ h2⟩
    have hm:(fs.mapM fun f=>(Prod.mk f.offset <$>sizeOf f.type:Sem (Nat × Nat))).run P w= .ok ⟨pl⟩ w:=by
     rw[Array.mapM_eq_mapM_toList]
     simp only[Sem.run_map,Hs (P:=P) (w:=w) fs.toList hpl,Result.andThen_ok]
    simp[Instr.build,hzv,run_underlying hu]
    rw[hm]
    simp[h1]
   ·exact h.elim
  ·exact h.elim
 ·exact h.elim
theorem vC (sz:Nat):∀(n off i:Nat) (p),(pA sz n off)[i]? =some p→p=(off+i*sz,sz)
 | 0,_,_,_,h=>by simp[pA] at h
 | n+1,off,0,p,h=>by simp[pA] at h;simp[← h]
 | n+1,off,i+1,p,h=>by
  have:=vC sz n (off+sz) i p (by simpa [pA] using h)
  rw[this];simp[Nat.add_mul];omega
theorem Ev {E:Env} (hw:E.w=w) {t:TypeId} {parts:List (Nat × SV)} {vs:List (Nat × Value)} {K:SV→Prop} (h:Lc P t parts K) (hp:RelP E parts vs):
  ∃v s,(Instr.build t vs.toArray).run P w= .ok v w∧K s∧Rel E s v:=by
 unfold Lc at h
 split at h
 ·rename_i n e z hu hz
  split at h
  ·rename_i sz hsz
   split at h
   ·rename_i l hl
    rw[dQ] at h
    obtain ⟨zv,hzv,rfl⟩:=gQ hz w
    obtain ⟨cells',h1,h2⟩:=qU (place:=fun i=>some (i*sz,sz)) (fun i p h=>by have:=vC sz n 0 i p h;rw[this];simp) (cells:=zv.cells) hp hl (iP E _)
    refine ⟨_,_,?_,h,.agg _ _ h2⟩
    simp[Instr.build,hzv,run_underlying hu,bY hsz,h1]
   ·exact h.elim
  ·exact h.elim
 ·exact h.elim
theorem Hu {size:Nat}:∀(vs:List (Nat × Value)) (k:Nat) (cells:Array Value),(∀j p,vs[j]? =some p→p.1=k+j∧p.2.cells.toList.length=size)→(k+vs.length)*size≤cells.size→
  Instr.fill (fun i=>some (i*size,size)) cells vs=some ⟨cells.toList.take (k*size)++vs.flatMap (fun p=>p.2.cells.toList)++cells.toList.drop ((k+vs.length)*size)⟩
 | [],k,cells,_,_=>by simp[Instr.fill]
 | (i,v)::r,k,cells,h,hs=>by
  obtain ⟨h1,h2⟩:=h 0 (i,v) rfl
  have h1':i=k:=by simpa using h1
  subst h1'
  have h2':v.cells.size=size:=by simpa using h2
  have hmul:(i+(r.length+1))*size=i*size+size+r.length*size:=by simp[Nat.add_mul];omega
  have hs':i*size+size+r.length*size≤cells.size:=by simp only[List.length_cons] at hs;omega
  have hsv:dN cells.toList (i*size) v.cells.toList=cells.toList.take (i*size)++v.cells.toList++cells.toList.drop (i*size+v.cells.toList.length):=Hp _ _ _ (by simp;omega)
  simp only[Instr.fill]
  rw[if_neg (by simp;omega),Bp,Hu r (i+1) _ (fun j p hj=>by have:=h (j+1) p hj;exact ⟨by omega,this.2⟩) (by
   show _≤(dN cells.toList (i*size) v.cells.toList).length
   rw[mC]
   have:(i+1+r.length)*size=i*size+size+r.length*size:=by simp[Nat.add_mul]
   simp;omega)]
  congr 2
  have e1:(i+1)*size=i*size+size:=by rw[Nat.add_mul,Nat.one_mul]
  have e2:(i+1+r.length)*size=i*size+size+r.length*size:=by simp[Nat.add_mul]
  simp only[List.flatMap_cons,List.length_cons]
  rw[hsv,hmul,e1,e2]
  simp only[Array.length_toList] at*
  have l1:(cells.toList.take (i*size)).length=i*size:=by simp;omega
  have l2:v.cells.toList.length=size:=by simp[h2']
  have t1:(cells.toList.take (i*size)++v.cells.toList++cells.toList.drop (i*size+v.cells.size)).take (i*size+size)=cells.toList.take (i*size)++v.cells.toList:=List.take_left' (by simp only[List.length_append,l1,l2])
  have t2:(cells.toList.take (i*size)++v.cells.toList++cells.toList.drop (i*size+v.cells.size)).drop (i*size+size+r.length*size)=cells.toList.drop (i*size+size+r.length*size):=by
   rw[xR _ _ (i*size+size) _ (by simp only[List.length_append,l1,l2]),List.drop_drop,h2']
  rw[t1,t2]
  simp[List.append_assoc]
end
end Go.Eng
end
section
namespace Go.Eng
open Go.RowKit
section
variable {P:Program} {G:Ctx} {H:List HO} {loc:Nat→Loc} {ver:Nat→Nat} {w:World}
theorem Lr (hI:Inv G H loc ver w) {w':World} (h:w.heap.size<w'.heap.size):okN G H loc w' w.heap.size:=by
 refine ⟨.inr (.inr hI.size),h,?_⟩
 rintro ⟨nm,o,ho,hb⟩
 have:=(hI.objs nm o ho).block hb
 simp[envOf] at this
theorem rX {E:Env} {t:Ty}:∀ {parts:List (Nat × SV)} {vs:List (Nat × Value)},RelP E parts vs→∀ {n:Nat} {l:List t.T},wY t parts n=some l→
  l.length=vs.length∧(∀j p,vs[j]? =some p→p.1=n+j∧p.2.cells.toList.length=t.size)∧(vs.flatMap fun p=>p.2.cells.toList).length=l.length*t.size∧
  ∀i,i<l.length→Reads E.w E.ok t (l.getD i t.dflt) (((vs.flatMap fun p=>p.2.cells.toList).drop (i*t.size)).take t.size)
 | _,_,.nil,n,l,h=>by
  simp only[wY] at h;cases h
  exact ⟨rfl,by simp,by simp,by simp⟩
 | _,_,.cons i s v r vs hc _ hl,n,l,h=>by
  simp only[wY] at h
  cases hb:(Nat.beq i n&&Nat.beq (aP s).length t.size&&iF t (aP s)) with
  | false=>rw[hb] at h;cases h
  | true=>
   rw[hb] at h
   simp only[cond_true] at h
   split at h
   ·rename_i x l' hd hl'
    cases h
    simp only[Bool.and_eq_true,aJ] at hb
    obtain ⟨⟨rfl,hlen⟩,hk⟩:=hb
    obtain ⟨h1,h2,h3,h4⟩:=rX hl hl'
    have hcl:=hc.length
    have hvl:v.cells.toList.length=t.size:=by omega
    refine ⟨by simp[h1],?_,?_,?_⟩
    ·intro j p hj
     cases j with
     | zero=>simp at hj;subst hj;exact ⟨rfl,hvl⟩
     | succ j=>simp at hj;have:=h2 j p hj;exact ⟨by omega,this.2⟩
    ·simp only[List.flatMap_cons,List.length_append,h3,hvl,List.length_cons,Nat.add_mul];omega
    ·intro j hj
     simp only[List.flatMap_cons]
     cases j with
     | zero=>
      rw[Nat.zero_mul,List.drop_zero,List.take_left' hvl]
      exact lD hc hd hk
     | succ j=>
      have:(j+1)*t.size=t.size+j*t.size:=by rw[Nat.add_mul];omega
      rw[this,xR _ _ _ _ hvl]
      simpa using h4 j (by simpa using hj)
   ·cases h
theorem xS {E:Env}:∀ {parts:List (Nat × SV)} {vs:List (Nat × Value)},RelP E parts vs→∀ {n:Nat} {l:List SV},wZ parts n=some l→
  l.length=vs.length∧(∀j p,vs[j]? =some p→p.1=n+j∧p.2.cells.toList.length=1)∧((∀s∈l,∀c,s≠ .agg c)→RelL E l (vs.flatMap fun p=>p.2.cells.toList))
 | _,_,.nil,n,l,h=>by
  simp only[wZ] at h;cases h
  exact ⟨rfl,by simp,fun _=>.nil⟩
 | _,_,.cons i s v r vs hc hr hl,n,l,h=>by
  simp only[wZ] at h
  cases hb:(Nat.beq i n&&Nat.beq (aP s).length 1) with
  | false=>rw[hb] at h;cases h
  | true=>
   rw[hb] at h
   simp only[cond_true] at h
   split at h
   ·rename_i l' hl'
    cases h
    simp only[Bool.and_eq_true,aJ] at hb
    obtain ⟨rfl,hlen⟩:=hb
    obtain ⟨h1,h2,h3⟩:=xS hl hl'
    have hcl:=hc.length
    refine ⟨by simp[h1],?_,?_⟩
    ·intro j p hj
     cases j with
     | zero=>
      simp at hj;subst hj
      have hvl:v.cells.toList.length=1:=by omega
      exact ⟨rfl,hvl⟩
     | succ j=>simp at hj;have:=h2 j p hj;exact ⟨by omega,this.2⟩
    ·intro hna
     simp only[List.flatMap_cons]
     have e:aP s= [s]:=by
      cases s<;>first | rfl | exact absurd rfl (hna _ (List.mem_cons_self ..) _)
     rw[e] at hc
     exact RelL.append hc (h3 fun s' hs'=>hna s' (List.mem_cons_of_mem _ hs'))
   ·cases h
theorem xT {E:Env} {sz:Nat}:∀ {parts:List (Nat × SV)} {vs:List (Nat × Value)},RelP E parts vs→∀ {n:Nat} {l:List SV},xB sz parts n=some l→
  l.length=vs.length*sz∧(∀j p,vs[j]? =some p→p.1=n+j∧p.2.cells.toList.length=sz)∧RelL E l (vs.flatMap fun p=>p.2.cells.toList)
 | _,_,.nil,n,l,h=>by
  simp only[xB] at h;cases h
  exact ⟨by simp,by simp,.nil⟩
 | _,_,.cons i s v r vs hc hr hl,n,l,h=>by
  simp only[xB] at h
  split at h
  case h_2=>cases h
  rename_i cl
  cases hb:(Nat.beq i n&&Nat.beq cl.length sz) with
  | false=>rw[hb] at h;cases h
  | true=>
   rw[hb] at h
   simp only[cond_true] at h
   split at h
   ·rename_i l' hl'
    cases h
    simp only[Bool.and_eq_true,aJ] at hb
    obtain ⟨rfl,hlen⟩:=hb
    obtain ⟨h1,h2,h3⟩:=xT hl hl'
    have hc':RelL E cl v.cells.toList:=hc
    have hcl:=hc'.length
    refine ⟨by rw[List.length_append,h1,hlen,List.length_cons,Nat.add_mul];omega,?_,?_⟩
    ·intro j p hj
     cases j with
     | zero=>
      simp at hj;subst hj
      have hvl:v.cells.toList.length=sz:=by omega
      exact ⟨rfl,hvl⟩
     | succ j=>simp at hj;have:=h2 j p hj;exact ⟨by omega,this.2⟩
    ·simp only[List.flatMap_cons]
     exact RelL.append hc' h3
   ·cases h
theorem wA {t e:TypeId} {sz:Nat} (hu:P.underlying t=some (.slice e)) (hs:cP P e=some sz):
  (Instr.buildSlice t 0 #[]).run P w= .ok (.slice (some ⟨w.heap.size,0,none⟩) 0 0) (w.alloc (.cells #[] e)):=by
 simp[Instr.buildSlice,run_underlying hu,bY hs,Instr.fill,newRow,Array.range_zero']
theorem vD:∀ {l:List SV},Ld l=true→∀s∈l,∀c,s≠ .agg c
 | [],_,s,hs,_,_=>by simp at hs
 | x::r,h,s,hs,c,e=>by
  subst e
  rcases List.mem_cons.1 hs with h1 | h1
  ·subst h1;cases h
  ·refine vD (l:=r) ?_ _ h1 c rfl
   cases x<;>first | exact h | cases h
theorem Zh {E:Env} {t:Ty} {l:List t.T} {b:Nat} {cs:List Value} {n:Nat} (hok:E.ok b) (hr:E.w.rangeAt b 0 cs) (hn:n=l.length) (hm:n≤maxL) (h:∀i,i<l.length→Reads E.w E.ok t (l.getD i t.dflt) ((cs.drop (i*t.size)).take t.size)):
  Rel E (.seq t l) (.slice (some ⟨b,0,none⟩) n n):=by
 refine .seq _ _ _ ⟨_,n,n,rfl,hn,Nat.le_refl _,hm,fun _=>⟨b,0,rfl,hok,fun i hi=>⟨_,(h i (by omega)).length,?_,h i (by omega)⟩⟩⟩
 intro j v hj
 rw[List.getElem?_take] at hj
 split at hj
 ·rw[List.getElem?_drop] at hj
  have:=hr (i*t.size+j) v hj
  simpa [Nat.add_assoc] using this
 ·cases hj
theorem lJ (hI:Inv G H loc ver w) {t:TypeId} {len:Nat} {parts:List (Nat × SV)} {vs:List (Nat × Value)} {K:SV→List HO→Prop} (h:jB P t len parts H K) (hp:RelP (envOf G H loc ver w) parts vs):
  ∃v w',(Instr.buildSlice t len vs.toArray).run P w= .ok v w'∧Res G (envOf G H loc ver w) K v w':=by
 unfold jB at h
 have h':=aE h
 clear h
 obtain ⟨hb0,h⟩:=h'
 simp only[Bool.and_eq_true,aJ,Nat.ble_eq] at hb0
 split at h
 case h_2=>exact h.elim
 rename_i e he
 have hu:=bF he
 split at h
 case h_2=>exact h.elim
 rename_i sz hs
 have h':=aE h
 clear h
 obtain ⟨hb1,h⟩:=h'
 simp only[Bool.and_eq_true,Nat.ble_eq] at hb1
 obtain ⟨ie,hie,hies⟩:=qT hs
 have hzero:∃z,ie.zero=some z:=by
  have:=hb1.2
  simp only[Te,hie] at this
  exact Option.isSome_iff_exists.1 this
 have hplen:∀ {ps:List (Nat × SV)} {vs:List (Nat × Value)},RelP (envOf G H loc ver w) ps vs→ps.length=vs.length:=by
  intro ps vs h
  induction h with
  | nil=>rfl
  | cons i s v l vs _ _ _ ih=>simp[ih]
 have hpl:=hplen hp
 -- what the model lays, where there is an element
 have main:∀(hvs:∀j p,vs[j]? =some p→p.1=0+j∧p.2.cells.toList.length=sz),0<len→∀(hz:∃z,ie.zero=some z),
   (Instr.buildSlice t len vs.toArray).run P w= .ok (.slice (some ⟨w.heap.size,0,none⟩) len len) (w.alloc (.cells ⟨vs.flatMap fun p=>p.2.cells.toList⟩ e)):=by
  rintro hvs h0 ⟨z,hz⟩
  have hsz0:0<sz:=by simpa using hb1.1.1
  have hpos:0<len*ie.size:=Nat.mul_pos h0 (by omega)
  have hle:len*ie.size≤1000*1000:=Nat.mul_le_mul hb0.2 (by have:=hb1.1.2;omega)
  have hvl:vs.length=len:=by omega
  refine run_buildSlice w t e len vs.toArray _ ie z hu hie hz (by omega) (by omega) ?_
  have hfl:(vs.flatMap fun p=>p.2.cells.toList).length=len*ie.size:=by
   have:∀(l:List (Nat × Value)),(∀p∈l,p.2.cells.toList.length=sz)→(l.flatMap fun p=>p.2.cells.toList).length=l.length*sz:=by
    intro l hl
    induction l with
    | nil=>simp
    | cons p r ih=>
     simp only[List.flatMap_cons,List.length_append,hl p (List.mem_cons_self ..),ih fun q hq=>hl q (List.mem_cons_of_mem _ hq),List.length_cons,Nat.add_mul];omega
   rw[this vs ?_,hvl,hies]
   intro p hp
   obtain ⟨j,hj,rfl⟩:=List.getElem_of_mem hp
   exact (hvs j _ (List.getElem?_eq_getElem hj)).2
  have:=Hu (size:=sz) vs 0 ((Array.range (len*ie.size)).map (z.cells[· %z.cells.size]!)) hvs (by simp[hvl,hies])
  rw[← hies] at this
  rw[show vs.toArray.toList=vs from by simp,this]
  simp[hvl]
 split at h
 ·rename_i ty hty
  obtain ⟨hb2',h'⟩:=aE h
  have hb2:=aJ.1 hb2'
  clear h hb2'
  revert h'
  intro h
  split at h
  ·cases hp
   rw[aL] at h
   have h0:len=0:=by simpa using hb0.1.symm
   subst h0
   refine ⟨_,_,wA hu hs,?_⟩
   have hf:=hI.fresh (w':=w.alloc (.cells #[] e)) (.vec 1 ty [] e) (mkL (some (w.heap.size,0)) (0) (0)) 1 (by simp) rfl rfl rfl (fun b hb=>Below.heap_alloc w _ b hb) (by intro b hb;simp[Owns] at hb;omega)
    (fun hx=>⟨rfl,Nat.one_pos,rfl,Nat.zero_le _,[],⟨by simp,.inr ⟨w.heap.size,0, #[],rfl,Nat.zero_le _,dV w _,Nat.le_refl _,Nat.zero_le _,by simp,by simp⟩⟩,fun i hi=>absurd hi (Nat.not_lt_zero _)⟩)
   refine ⟨_,_,_,_,h,hf.1,?_,hf.2⟩
   refine .ref _ _ _ (by exact eC rfl) Nat.one_pos (by simp[envOf,aG]) fun _=>?_
   simp[envOf,aG,Core.head]
  ·rename_i hne
   split at h
   case h_2=>exact h.elim
   rename_i l hl
   rw[aL] at h
   obtain ⟨h1,h2,h3,h4⟩:=rX hp hl
   have h0:0<len:=by
    cases parts with
    | nil=>exact (hne rfl).elim
    | cons p r=>rw[← hb0.1];simp
   rcases h.or with h | h
   ·refine ⟨_,_,main (by rw[hb2];exact h2) h0 hzero,?_⟩
    have hg:=hI.grow (w':=w.alloc (.cells ⟨vs.flatMap fun p=>p.2.cells.toList⟩ e)) ((Below.refl _ _).alloc (Nat.le_refl _) _)
    refine ⟨_,_,_,_,h,hg.1,?_,hg.2⟩
    refine Zh (cs:=vs.flatMap fun p=>p.2.cells.toList) (Lr hI (by simp)) ?_ (by omega) (Nat.le_trans hb0.2 (by simp[maxL])) fun i hi=>(h4 i hi).mono hg.2.cell hg.2.ok
    intro j v hj
    simp[envOf,hj]
   ·rw[aL] at h
    have hfl:(vs.flatMap fun p=>p.2.cells.toList).length=len*ty.size:=by
     have:∀(l:List (Nat × Value)),(∀p∈l,p.2.cells.toList.length=ty.size)→(l.flatMap fun p=>p.2.cells.toList).length=l.length*ty.size:=by
      intro l hl
      induction l with
      | nil=>simp
      | cons p r ih=>
       simp only[List.flatMap_cons,List.length_append,hl p (List.mem_cons_self ..),ih fun q hq=>hl q (List.mem_cons_of_mem _ hq),List.length_cons,Nat.add_mul];omega
     rw[this vs ?_]
     ·congr 1;omega
     intro p hp
     obtain ⟨j,hj,rfl⟩:=List.getElem_of_mem hp
     exact (h2 j _ (List.getElem?_eq_getElem hj)).2
    have hll:List.length (α:=ty.T) l=len:=by omega
    refine ⟨_,_,main (by rw[hb2];exact h2) h0 hzero,?_⟩
    have hf:=hI.fresh (w':=w.alloc (.cells ⟨vs.flatMap fun p=>p.2.cells.toList⟩ e)) (.vec 1 ty l e) (mkL (some (w.heap.size,0)) len len) 1 (by simp) rfl rfl rfl (fun b hb=>Below.heap_alloc w _ b hb) (by intro b hb;simp[Owns] at hb;omega)
     (fun hx=>⟨rfl,Nat.one_pos,hll.symm,by show len≤140737488355328;omega,vs.flatMap (fun p=>p.2.cells.toList),⟨hfl,.inr ⟨w.heap.size,len,_,rfl,Nat.zero_le _,dV w _,Nat.le_refl _,by simp[maxLen];omega,Nat.le_of_eq (Eq.symm (by simpa using hfl)),by rw[List.take_of_length_le (by simpa using Nat.le_of_eq hfl)]⟩⟩,fun i hi=>(h4 i (by have hi':i<len:=hi;omega)).mono hx.cell hx.ok⟩)
    refine ⟨_,_,_,_,h,hf.1,?_,hf.2⟩
    refine .ref _ _ _ (by exact eC rfl) Nat.one_pos (by simp[envOf,aG]) fun _=>?_
    simp[envOf,aG,Core.head]
 ·rename_i hty
  obtain ⟨hb2,h⟩:=aE h
  have hlen0:0<len:=by simpa using hb2
  cases hs1:Nat.beq sz 1 with
  | true=>
   rw[hs1] at h
   simp only[cond_true] at h
   have hs1:=aJ.1 hs1
   split at h
   case h_2=>exact h.elim
   rename_i l hl
   obtain ⟨hna,h⟩:=aE h
   rw[dQ] at h
   obtain ⟨h1,h2,h3⟩:=xS hp hl
   have hrel:=h3 (vD hna)
   refine ⟨_,_,main (by rw[hs1];exact h2) hlen0 hzero,?_⟩
   have hg:=hI.grow (w':=w.alloc (.cells ⟨vs.flatMap fun p=>p.2.cells.toList⟩ e)) ((Below.refl _ _).alloc (Nat.le_refl _) _)
   refine ⟨_,_,_,_,h,hg.1,?_,hg.2⟩
   refine .lit 1 len _ 0 l _ (hrel.ext hg.2) ?_ (Lr hI (by simp)) ?_
   ·rw[← hrel.length];omega
   ·intro j v hj
    simp[envOf,hj]
  | false=>
   rw[hs1] at h
   simp only[cond_false] at h
   split at h
   case h_2=>exact h.elim
   rename_i l hl
   rw[dQ,tO] at h
   obtain ⟨h1,h2,hrel⟩:=xT hp hl
   refine ⟨_,_,main h2 hlen0 hzero,?_⟩
   have hg:=hI.grow (w':=w.alloc (.cells ⟨vs.flatMap fun p=>p.2.cells.toList⟩ e)) ((Below.refl _ _).alloc (Nat.le_refl _) _)
   refine ⟨_,_,_,_,h,hg.1,?_,hg.2⟩
   refine .lit sz len _ 0 l _ (hrel.ext hg.2) ?_ (Lr hI (by simp)) ?_
   ·rw[← hrel.length,h1,← hpl,hb0.1]
   ·intro j v hj
    simp[envOf,hj]
end
end Go.Eng
end
