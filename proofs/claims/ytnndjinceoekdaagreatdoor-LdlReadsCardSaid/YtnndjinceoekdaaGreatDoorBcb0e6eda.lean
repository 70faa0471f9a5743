/-
  Parts of the proof: Fw25, Fw36, Fw46, Fw47, Pl1, Fs, Dn20, Dn21, TwS, Dn20b, Dn22, Dn24a, Dn24, Dn25, Dn25b, Dn25c, Tw25: the framework (Fw), pure forms (Dn), plain laws (Pl, Th), calls of functions (Ok).
-/
import Derived.ProofKit
import Derived.Handed
import Derived.KernelRfl
import Derived.Lib.SlicesCompact
import Derived.RangeFuncBox
import Derived.RangeFuncLeaves
import Derived.Shelf.Abstract
import Derived.WalkKit
import Derived.OwnWalkIn
import Derived.TacticsInMore
import Derived.LoopNIn
import Derived.LoopIn
import Derived.Maps.AppendAt
import Derived.Shelf.Slices.CompactI
import Derived.Lib.OwnBridge
import Derived.Test.YtnndjinceoekdaaGreatDoorProg
import Derived.Test.YtnndjinceoekdaaGreatDoorB96ab01d1

set_option linter.all false
set_option maxHeartbeats 1000000
open _root_ renaming Nat->X,Int->Z,List->bn,rfl->bo,Option->bw,cond_true->bH,congrArg->b4,Array->bU,Bool->bA,if_true->cg,False->b7,Unit->bt,cond->bz,and_true->ca
open Go renaming World->bD,ResultVar->aj4,TypeId->bG,Exit->b6,Oper->bS,Program->b1,Field->akl,MemPlace->alA,Fence->akX,CallsIn->akP,callsIn_of_wp->alE,undef->bW
open Option renaming none->bq,some->Y,bind_eq_some_iff->ala,bind->bC
open Nat renaming beq->bI,blt->cf,ble->b3,reduceAdd->alc,reduceSub->ald,mul_one->alw
open List renaming length->cA,range->bL,getElem?_eq_none->al1,getElem?_eq_getElem->b0,replicate->bJ
open Option.some renaming inj->aln
open Bool renaming true->bp,false->br
open ByteArray renaming empty->amj
open Go.Program renaming cellsOf->aox
open Go.Addr renaming add->amA
open Go.World renaming cell?->ak6,frozen?->amn
open Go.DataW renaming trod->anF,TrodAll->alC
open Go.jt.ai renaming size->akm
open Go.Value renaming okWide->alB,bool->aoA,int->akb,oneCell'->akj
open Go.WideShapes renaming okWide_int->apu,okWide_bool->apv,okWide_string->apw,okWide_slice->apx
open Go.ChangeShapes renaming trodAll_cons->anG,trodAll_mk1->apz,trodAll_append->apA
open Go.jt.c6 renaming refl->cp
open Go.WideElems renaming Trod_stays->apy
open Array renaming toArray_toList->aoy
open Go.MemPlace renaming cell->aoz
open Decidable renaming decide->bu
open Go.IntKind renaming i64->bK,wrap->alD,u64->bE,u32->cb,u8->anH
open Go.Lib renaming compact->akO
open Go.Proofs.Tryz renaming prog->cn,underlying23->aoB,func317->anI,ntmps317->aoC
open Go.RowKit.Below renaming refl->al2
open Go.Boxed renaming new->aoD
open Go.Sort renaming ahead->aoE
noncomputable section
namespace Go.jt
variable{a:X}{b:Value}{c:bD}{d:Z}{e:bn aj4}{f:dh->X->Prop}{g:bn ho}{h:bn ai}{i:aj0}{j:X->Prop}
section
def nA:X->(f:bn ho)->ht f->bn (X×al)
 |_,[],_=>[]
 |k,.v g::b,a=>(k,.val g a.1)::nA (k+1) b a.2
 |k,.m _::b,a=>(k,.ref k [])::nA (k+1) b a.2
 |k,.o _::b,a=>(k,.ref k [])::nA (k+1) b a.2
 |k,.c e h::b,a=>(k,.da e ((i7 h a.1).map λd=>.val d.1 d.2))::nA (k+1) b a.2
 |k,.n::b,a=>(k,.dd (.slice bq 0 0))::nA (k+1) b a.2
 |k,.w _::b,a=>(k,.view k [] a.1.2.1 a.1.2.2)::nA (k+1) b a.2
 |k,.s _ _::b,a=>nA (k+1) b a.2
def nB:X->(e:bn ho)->ht e->bn (X×aK)
 |_,[],_=>[]
 |k,.v _::b,a=>nB (k+1) b a.2
 |k,.m d::b,a=>(k,⟨d,a.1⟩)::nB (k+1) b a.2
 |k,.o d::b,a=>(k,⟨d,a.1⟩)::nB (k+1) b a.2
 |k,.c _ _::b,a=>nB (k+1) b a.2
 |k,.n::b,a=>nB (k+1) b a.2
 |k,.w f::b,a=>(k,⟨.osl f,a.1.1⟩)::nB (k+1) b a.2
 |k,.s _ _::b,a=>nB (k+1) b a.2
def j7:X->bn ho->ajZ
 |_,[]=>[]
 |k,.m _::a=>k::j7 (k+1) a
 |k,.v _::a=>j7 (k+1) a
 |k,.o _::a=>j7 (k+1) a
 |k,.c _ _::a=>j7 (k+1) a
 |k,.n::a=>j7 (k+1) a
 |k,.w _::a=>k::j7 (k+1) a
 |k,.s _ _::a=>j7 (k+1) a
def G9 {r:Type}:∀{k:X} {ps:bn ho} {a:ht ps} {b:iQ ps r},jS k (gz ps a b)=nA k ps a/\ks k (gz ps a b)=nB k ps a/\hO k (gz ps a b)=j7 k ps/\(gz ps a b).length=ps.length
 |k,[],a,b=>⟨bo,bo,bo,bo⟩
 |k,i::h,a,b=>by
  have g:=λa b=>G9 (r:=r) (k:=k+1) (ps:=h) (a:=a) (b:=b);cases i
  case m=>
   obtain⟨c,d,e,f⟩:=g a.2 b.2;simp only[gz,jS,ks,hO,nA,nB,j7,jf,c,d,e,f,and_self]
  case w=>
   obtain⟨c,d,e,f⟩:=g a.2 b.2;simp only[gz,jS,ks,hO,nA,nB,j7,jf,c,d,e,f,and_self]
  all_goals obtain⟨c,d,e,f⟩:=g a.2 b;simp only[gz,jS,ks,hO,nA,nB,j7,jf,c,d,e,f,and_self]
def F4 (tt:bn (bG×ai)) (e:aO) (b:ai):aj4->bw (b.den×ajZ)
 |.tmp k=>match gt e.g k with
  |.val _ l=>(hS b l).bind λa=>Y (a,[])
  |.dd f=>bif pW b f then(iM b f.cells.toList).bind λa=>Y (a,[]) else bq
  |.ref id d=>match aq e.h id with
   |some c=>(hT c.1 c.2 d b).bind λa=>Y (a,[id])
   |none=>bq
  |_=>bq
 |.cell j i=>match aq tt i with
  |some m=>bif a9 m b then match gt e.g j with
   |.ref id d=>match aq e.h id with
    |some c=>match fb c.1 d with
     |some (.optr _)=>(hT c.1 c.2 (d++[.deref]) b).bind λa=>Y (a,[id])
     |_=>bq
    |none=>bq
   |_=>bq else bq
  |none=>bq
def F3 (tt:bn (bG×ai)) (c:aO):bn aj4->(a:bn ai)->bw (lM a×ajZ)
 |[],[]=>Y ((),[])
 |r::f,e::a=>bif e.fP then(F4 tt c e r).bind λd=>(F3 tt c f a).map λb=>((d.1,b.1),d.2++b.2) else bq
 |_,_=>bq
theorem adZ {E:fk} {f:aO} {c:ai} {b:aj4} {d:c.den×ajZ} (a:F4 E.tt f c b=Y d):se E.P f ⟨c,d.1⟩ b d.2:=by
 cases b with
 |tmp b=>
  simp only[F4] at a;simp only[se];split at a
  ·grind [kv,ala]
  ·grind [ala,pW.ok]
  ·grind [iO,ala]
  grind
 |cell j h=>
  simp only[F4] at a;simp only[se];split at a
  case h_2=>cases a
  rename_i g i;cases e:a9 g c with
  |false=>grind
  |true=>
  rw[e] at a;refine⟨(E.ok h g i).lay e,?_⟩;simp only[bH] at a;grind [iO,ala]
theorem RP {E:fk} {f:aO}:∀{d:bn aj4} {c:bn ai} {b:lM c×ajZ},F3 E.tt f d c=Y b->uw E.P f d (i7 c b.1) b.2
 |[],[],b,a=>by cases a;rfl
 |[],_::_,b,a=>by cases a
 |_::_,[],b,a=>by cases a
 |r::d,k::c,b,a=>by
  simp only[F3] at a;cases e:k.fP with
  |false=>grind
  |true=>
  rw[e] at a;simp only[bH] at a;obtain⟨j,h,a⟩:=eL.1 a;obtain⟨i,g,rfl⟩:=fl.1 a;exact⟨e,j.2,i.2,bo,adZ h,RP g⟩
def pg (
 st:aO) {t:Type} (d:bw t):X->(r:bn ho)->ht r->bw (iQ r t)
 |_,[],_=>d
 |k,.v _::b,a=>pg st d (k+1) b a.2
 |k,.o _::b,a=>pg st d (k+1) b a.2
 |k,.c _ _::b,a=>pg st d (k+1) b a.2
 |k,.n::b,a=>pg st d (k+1) b a.2
 |k,.s _ _::b,a=>pg st d (k+1) b a.2
 |k,.m l::b,a=>bif sn (.ref k []) (gt st.g k)&&(l.fP&&rT l) then match aq st.h k with
  |some j=>match hS l j.2 with
   |some e=>(pg st d (k+1) b a.2).map λi=>(e,i)
   |none=>bq
  |none=>bq else bq
 |k,.w f::b,a=>match gt st.g k with
  |.view u [] q p=>bif bI k u&&f.fP then match aq st.h k with
   |some j=>match hS (.osl f) j.2 with
    |some e=>bif bI q a.1.2.1&&(bI p a.1.2.2&&(bI (cA (α:=f.den) e) (cA (α:=f.den) a.1.1)&&cf q p)) then(pg st d (k+1) b a.2).map λi=>(e,i) else bq
    |none=>bq
   |none=>bq else bq
  |_=>bq
theorem tv {y:aO} {C:Type} {B:bw C}:∀{k:X} {ps:bn ho} {a:ht ps} {d:iQ ps C},pg y B k ps a=Y d->pI y k (gz ps a d)/\B=Y (ig ps d)
 |k,[],a,d,b=>⟨trivial,b⟩
 |k,.v _::e,a,d,b=>tv (ps:=e) b
 |k,.o _::e,a,d,b=>tv (ps:=e) b
 |k,.c _ _::e,a,d,b=>tv (ps:=e) b
 |k,.n::e,a,d,b=>tv (ps:=e) b
 |k,.s _ _::e,a,d,b=>tv (ps:=e) b
 |k,.m E::e,a,d,b=>by
  simp only[pg] at b;cases f:(sn (.ref k []) (gt y.g k)&&(E.fP&&rT E)) with
  |false=>grind
  |true=>
  rw[f] at b;simp only[cE] at f;simp only[bH] at b;split at b
  case h_2=>cases b
  rename_i J t;split at b
  case h_2=>cases b
  rename_i D u;obtain⟨I,r,rfl⟩:=fl.1 b;obtain⟨j,l⟩:=tv (a:=a.2) r;refine⟨⟨⟨(sn.ok f.1).symm,?_,f.2.1,f.2.2⟩,j⟩,l⟩;rw[t];exact b4 Y (kv u)
 |k,.w z::e,a,d,b=>by
  simp only[pg] at b;split at b
  case h_2=>cases b
  rename_i H x q G;cases f:(bI k H&&z.fP) with
  |false=>grind
  |true=>
  rw[f] at b;simp only[cE] at f;obtain rfl:=ff f.1;simp only[bH] at b;split at b
  case h_2=>cases b
  rename_i J t;split at b
  case h_2=>cases b
  rename_i D u;cases p:(bI x a.1.2.1&&(bI q a.1.2.2&&(bI (cA (α:=z.den) D) (cA (α:=z.den) a.1.1)&&cf x q))) with
  |false=>grind
  |true=>
  rw[p] at b;simp only[cE] at p;obtain⟨h,i,F,A⟩:=p;have h:=ff h;have i:=ff i;have A:x<q:=gL A;obtain⟨I,r,rfl⟩:=fl.1 b;obtain⟨j,l⟩:=tv (a:=a.2) r;refine⟨⟨⟨by rw[G,h,i],?_,⟨f.2,aa⟩,ff F⟩,j⟩,l⟩;rw[t];exact b4 Y (kv u)
def EI (tt:bn (bG×ai)) (a:bn ho) (f:bn aj4) (d:bn ai) (e:ht a) (c:aO):bw (iQ a (lM d)):=
 match F3 tt c f d with
 |some b=>bif jA (j7 0 a++b.2) then pg c (Y b.1) 0 a e else bq
 |none=>bq
theorem Og {E:fk} {j:aO} {c:ht g} {d:iQ g (lM h)} {f:b6} (m:f=.normal\/f=.ret) (b:EI E.tt g e h c j=Y d):LM E.P (gz g c d) e (i7 h (ig g d)) f j:=by
 unfold EI at b;split at b
 case h_2=>cases b
 rename_i i o;cases l:jA (j7 0 g++i.2) with
 |false=>grind
 |true=>
 rw[l] at b;simp only[bH] at b;obtain⟨k,n⟩:=tv (a:=c) b;refine⟨m,i.2,?_,?_,k⟩
 ·grind [RP,aln]
 simp_all [G9]
def Oh (tt:bn (bG×ai)) (a:bn ho) (e:bn aj4) (c:bn ai) (d:ht a):b6->aO->bw (iQ a (lM c))
 |.normal,b=>EI tt a e c d b
 |.ret,b=>EI tt a e c d b
 |_,_=>bq
def AT (c:gJ) (e:mj) (f:Code) (a:bn ho) (g:bn aj4) (d:bn ai) (b:ht a):bw (iQ a (lM d)):=
 hJ c e f ⟨nA 0 a b,nB 0 a b⟩ _ (Oh c.tt a g d b)
section
variable {E:fk}
theorem aA.Qd {i:X} {d:Func} {j:ht g->bw (iQ g (lM h))} (n:bn (X×js)) (r:bn (X×ai)) (o:aj1) (w:mj) (aF:ajS) (F:∀v∈aF,y8 E.P v) (D:E.P.funcs[i]?=Y d) (O:d.body.isSome=bp) (I:d.results=e.toArray) (R:b3 g.length d.ntmps=bp) (C:∀(s:ajR) (t:bD),(callFunc i s).run E.P t=.ok (.enter i s) t) (J:∀K∈n,aA E K.2) (A:∀f,AT ⟨E.tt,n,r,d.ntmps,j7 0 g++nS (jE 0 g),[],o,jE 0 g,aF,[],E.glob,E.eqs⟩ w (d.body.getD .skip) g e h f=j f):aA E ⟨i,g,h,j⟩:=by
 refine⟨C,λf u p=>?_⟩;rw[show(js.mk i g h j).yQ f=j f from rfl,<-A f] at p;obtain⟨ao,y,z,N⟩:=G9 (k:=0) (ps:=g) (a:=f) (b:=u);refine rX.ZH D (c:=d.body.getD .skip) (by cases Q:d.body with|none=>grind|some L=>rfl) I (by simp_all) ?_;intro M B l H q G;rw[ao,y];rw[BO] at l q;rw[z] at l;refine l6 (ic:=⟨E.tt,n,r,d.ntmps,j7 0 g++nS (jE 0 g),[],o,jE 0 g,aF,[],E.glob,E.eqs⟩) ⟨bo,B.symm,l.symm,⟨J,q,F,G,bo,bo⟩,pz.nil H⟩ p ?_;intro x S m;cases x with
 |normal=>exact Og (.inl bo) m
 |ret=>exact Og (.inr bo) m
 |_=>cases m
def aA.of {fn:Func} {rs:bn aj4} {j:ht g->bw (iQ g (lM h))} (c:bn (X×js)) (i:bn (X×ai)) (f:aj1) (e:mj) (o:E.P.funcs[a]?=Y fn) (m:fn.body.isSome=bp) (q:fn.results=rs.toArray) (p:b3 g.length fn.ntmps=bp) (n:∀(k:ajR) (l:bD),(callFunc a k).run E.P l=.ok (.enter a k) l) (r:∀s∈c,aA E s.2) (b:∀d,AT ⟨E.tt,c,i,fn.ntmps,j7 0 g++nS (jE 0 g),[],f,jE 0 g,[],[],E.glob,E.eqs⟩ e (fn.body.getD .skip) g rs h d=j d):aA E ⟨a,g,h,j⟩:=
 aA.Qd c i f e [] (λ_ b=>by cases b) o m q p n r b
def Gd:Code->Code
 |.seq a _=>a
 |c=>c
def Sr:Code->Code
 |.seq _ a=>a
 |c=>c
def v5 (a:X):Code->bw (bU bS)
 |.region d e _=>if d=a then Y e else bq
 |.seq b c=>(v5 a b).orElse λ_=>v5 a c
 |.cond _ b c=>(v5 a b).orElse λ_=>v5 a c
 |.block _ b=>v5 a b
 |.loop b=>v5 a b
 |_=>bq
def IU {b:gJ} {k:Type} {c:bU bS} {f:ajZ} {d:aO->bw k}:∀(j:ajZ) (g:aO),ll b c (j++f) g d=ll b c j g λa=>ll b c f a d
 |[],g=>rfl
 |i::e,g=>by
  have h:(λa=>ll b c (e++f) a d)=λa=>ll b c e a λa=>ll b c f a d:=funext λa=>IU e a;simp only[n1,ll];split
  ·rfl
  split
  ·rw[h]
  simp only[h,IU e]
def Xx {b:b1} {tt:bn (bG×ai)} (i:∀c f,aq tt c=Y f->e9 b f c) {a:uA} {S:bG} (g:b.underlying a.T=Y (.array a.xs.length S)) (h:aq tt S=Y (.int a.k)):∀e∈[a],L3 b e:=λe d=>by rw[fg] at d;subst d;exact⟨S,g,i _ _ h⟩
def SR:∀b∈([]:bn (X×js)),aA E b.2:=λ_ a=>by cases a
theorem afl {c:js} {d:bn (X×js)} (f:aA E c) (g:∀b∈d,aA E b.2):∀b∈(a,c)::d,aA E b.2:=λb e=>by grind
end
def ws:Value->Value->bA
 |.int c a,.int d b=>if c=d/\a=b then bp else br
 |.bool a,.bool b=>a==b
 |.string a,.string b=>a.data.toList.isEmpty&&b.data.toList.isEmpty
 |.slice bq 0 0,.slice bq 0 0=>bp
 |.map bq,.map bq=>bp
 |.pointer bq,.pointer bq=>bp
 |.nilFunc,.nilFunc=>bp
 |_,_=>br
def U5 {a:ByteArray} (c:a.data.toList.isEmpty=bp):a=amj:=by
 cases a with|mk b=>cases b with|mk d=>cases d with
  |nil=>rfl
  |cons=>cases c
theorem ws.ok {c:Value} (a:ws b c=bp):b=c:=by
 unfold ws at a;split at a
 ·grind
 ·rw[beq_iff_eq.1 a]
 ·simp_all [U5,cE]
 ·rfl
 ·rfl
 ·rfl
 ·rfl
 cases a
def wu:ajT->ajT->bA
 |[],[]=>bp
 |a::c,b::d=>ws a b&&wu c d
 |_,_=>br
theorem wu.ok:∀{c d:ajT},wu c d=bp->c=d
 |[],[],_=>rfl
 |[],_::_,b=>by cases b
 |_::_,[],b=>by cases b
 |a::c,e::d,b=>by simp only[wu,cE] at b;rw[ws.ok b.1,wu.ok b.2]
def jz (b:b1) (c:bG) (d:X) (f:Value):bA:=match b.info? c with
 |some a=>bI a.size 1&&b3 a.bytes d&&(match a.zero with|some e=>ws e f|none=>br)
 |none=>br
theorem jz.ok {d:b1} {e:bG} {f:X} {g:Value} (b:jz d e f g=bp):∃a,d.info? e=Y a/\a.size=1/\a.bytes<=f/\a.zero=Y g:=by
 unfold jz at b;split at b
 case h_2=>cases b
 rename_i a j;simp only[cE] at b;obtain⟨⟨h,i⟩,c⟩:=b;split at c
 case h_2=>cases c
 rename_i l k;exact⟨a,j,ff h,gL i,by rw[k,ws.ok c]⟩
mutual
def hQ (b:b1):ai->bG->bA
 |.int g,a=>jz b a 24 (.int g 0)&&(match b.underlying a with|some (.int j)=>if j=g then bp else br|_=>br)
 |.bool,a=>jz b a 24 (.bool br)&&(match b.underlying a with|some .bool=>bp|_=>br)
 |.str,a=>jz b a 24 (.string amj)&&(match b.underlying a with|some .string=>bp|_=>br)
 |.a6 _ c,a=>jz b a 24 (.slice bq 0 0)&&(match b.underlying a with|some (.slice d)=>hQ b c d|_=>br)
 |.osl c,a=>jz b a 24 (.slice bq 0 0)&&(match b.underlying a with|some (.slice d)=>hQ b c d|_=>br)
 |.ptr _ c,a=>jz b a 24 (.pointer bq)&&(match b.underlying a with|some (.pointer d)=>hQ b c d|_=>br)
 |.optr c,a=>jz b a 24 (.pointer bq)&&(match b.underlying a with|some (.pointer d)=>hQ b c d|_=>br)
 |.mp c,a=>jz b a 24 (.map bq)&&(match b.underlying a with|some (.map e d)=>(match b.underlying e with|some (.int .i64)=>hQ b c d|_=>br)|_=>br)
 |.e1 _ c,a=>jz b a 24 (.map bq)&&(match b.underlying a with|some (.map e d)=>(match b.underlying e with|some (.int .i64)=>hQ b c d|_=>br)|_=>br)
 |.fn _ _,a=>jz b a 24 .nilFunc&&(match b.underlying a with|some (.func _ _ _)=>bp|_=>br)
 |.st c,a=>cf 0 c.size&&match b.info? a with
  |some f=>bI f.size c.size&&b3 f.bytes (24*c.size)&&(match f.zero with
   |some (.agg h)=>bI h.size c.size&&(match b.underlying a with|some (.struct i)=>s7 b c i.toList 0 h.toList|_=>br)
   |_=>br)
  |none=>br
 |_,_=>br
def s7 (c:b1):ai->bn akl->X->ajT->bA
 |.pr a f,d::h,e,b=>bI d.offset e&&hQ c a d.type&&cf 0 a.size&&(match c.info? d.type with|some g=>(match g.zero with|some i=>wu (b.take a.size) i.cells.toList|none=>br)|none=>br)&&s7 c f h (e+a.size) (b.drop a.size)
 |.nil,[],_,b=>b.isEmpty
 |_,_,_,_=>br
end
mutual
theorem hQ.ok {n:b1}:∀{o:ai} {i:bG},hQ n o i=bp->e9 n o i
 |.int z,i,a=>by
  simp only[hQ,cE] at a;obtain⟨c,b⟩:=a;obtain⟨e,ay,f,g,h⟩:=jz.ok c;split at b
  ·rename_i A d;split at b
   ·rename_i p;subst p;exact⟨e,ay,f,g,h,d⟩
   grind
  grind
 |.bool,i,a=>by
  simp only[hQ,cE] at a;obtain⟨c,b⟩:=a;obtain⟨e,ay,f,g,h⟩:=jz.ok c;split at b
  ·rename_i d;exact⟨e,ay,f,g,h,d⟩
  grind
 |.str,i,a=>by
  simp only[hQ,cE] at a;obtain⟨c,b⟩:=a;obtain⟨e,ay,f,g,h⟩:=jz.ok c;split at b
  ·rename_i d;exact⟨e,ay,f,g,h,d⟩
  grind
 |.a6 _ k,i,a=>by
  simp only[hQ,cE] at a;obtain⟨c,b⟩:=a;obtain⟨e,ay,f,g,h⟩:=jz.ok c;split at b
  ·rename_i j d;exact⟨e,j,ay,f,g,h,d,hQ.ok b⟩
  grind
 |.osl k,i,a=>by
  simp only[hQ,cE] at a;obtain⟨c,b⟩:=a;obtain⟨e,ay,f,g,h⟩:=jz.ok c;split at b
  ·rename_i j d;exact⟨e,j,ay,f,g,h,d,hQ.ok b⟩
  grind
 |.ptr _ k,i,a=>by
  simp only[hQ,cE] at a;obtain⟨c,b⟩:=a;obtain⟨e,ay,f,g,h⟩:=jz.ok c;split at b
  ·rename_i j d;exact⟨e,j,ay,f,g,h,d,hQ.ok b⟩
  grind
 |.optr k,i,a=>by
  simp only[hQ,cE] at a;obtain⟨c,b⟩:=a;obtain⟨e,ay,f,g,h⟩:=jz.ok c;split at b
  ·rename_i j d;exact⟨e,j,ay,f,g,h,d,hQ.ok b⟩
  grind
 |.mp k,i,a=>by
  simp only[hQ,cE] at a;obtain⟨c,b⟩:=a;obtain⟨e,ay,f,g,h⟩:=jz.ok c;split at b
  ·rename_i l j d;split at b
   ·rename_i m;exact⟨e,l,j,ay,f,g,h,d,m,hQ.ok b⟩
   grind
  grind
 |.e1 _ k,i,a=>by
  simp only[hQ,cE] at a;obtain⟨c,b⟩:=a;obtain⟨e,ay,f,g,h⟩:=jz.ok c;split at b
  ·rename_i l j d;split at b
   ·rename_i m;exact⟨e,l,j,ay,f,g,h,d,m,hQ.ok b⟩
   grind
  grind
 |.fn _ _,i,a=>by
  simp only[hQ,cE] at a;obtain⟨c,b⟩:=a;obtain⟨e,ay,f,g,h⟩:=jz.ok c;split at b
  ·rename_i v w x d;exact⟨e,v,w,x,ay,f,g,h,d⟩
  grind
 |.st k,i,a=>by
  simp only[hQ,cE] at a;obtain⟨r,a⟩:=a;split at a
  case h_2=>cases a
  rename_i e t;simp only[cE] at a;obtain⟨⟨c,b⟩,a⟩:=a;split at a
  case h_2=>cases a
  rename_i y u;simp only[cE] at a;obtain⟨s,a⟩:=a;split at a
  case h_2=>cases a
  rename_i q d;exact⟨gL r,e,q,y,t,ff c,gL b,u,d,s7.ok a,ff s⟩
 |.pr _ _,_,a=>by cases a
 |.nil,_,a=>by cases a
 |.eB,_,a=>by cases a
theorem s7.ok {f:b1}:∀{g:ai} {b:bn akl} {d:X} {c:ajT},s7 f g b d c=bp->iD f g b d c
 |.pr h i,[],d,c,a=>by cases a
 |.pr h i,r::s,d,c,a=>by
  simp only[s7,cE] at a;obtain⟨⟨⟨⟨j,k⟩,l⟩,e⟩,m⟩:=a;split at e
  case h_2=>cases e
  rename_i p n;split at e
  case h_2=>cases e
  rename_i q o;exact⟨ff j,hQ.ok k,gL l,⟨p,q,n,o,wu.ok e⟩,s7.ok m⟩
 |.nil,[],d,c,a=>by have a:c=[]:=(by grind [s7]);exact a
 |.nil,_::_,d,c,a=>by cases a
 |.int _,b,d,c,a=>by cases b<;>cases a
 |.bool,b,d,c,a=>by cases b<;>cases a
 |.str,b,d,c,a=>by cases b<;>cases a
 |.a6 _ _,b,d,c,a=>by cases b<;>cases a
 |.ptr _ _,b,d,c,a=>by cases b<;>cases a
 |.osl _,b,d,c,a=>by cases b<;>cases a
 |.optr _,b,d,c,a=>by cases b<;>cases a
 |.st _,b,d,c,a=>by cases b<;>cases a
 |.eB,b,d,c,a=>by cases b<;>cases a
end
theorem S4 {e:b1}:∀{tt:bn (bG×ai)},(tt.all λf=>hQ e f.2 f.1)=bp->∀a b,aq tt a=Y b->e9 e b a
 |[],_,_,_,c=>by cases c
 |(k,g)::r,c,a,b,d=>by
  simp only[r5,cE] at c;rw[de] at d;split at d
  ·grind [hQ.ok]
  exact S4 (by grind) a b d
def Ip (a:b1):ajS->bA
 |[]=>bp
 |T::d=>!a.stoodInHeld T&&(!a.eqGuardType a.depth T&&((match a.underlying T with|some (.struct c)=>c.toList.all λb=>b.name !="_"|_=>br)&&Ip a d))
def N3 {e:b1}:∀{d:ajS},Ip e d=bp->∀b∈d,LL e b
 |[],_,b,a=>by cases a
 |U::d,f,b,a=>by
  simp only[Ip,cE,tX] at f;obtain⟨h,i,c,j⟩:=f;rcases fG.1 a with rfl|a
  ·split at c
   ·rename_i g k;exact⟨h,i,g,k,c⟩
   cases c
  exact N3 j b a
end
section
def pL:(i:ai)->i.den->Prop
 |.int g,h=>(Lit.int g h).wf=bp
 |.a6 _ b,c=>c.length<=maxLen/\∀a∈c,pL b a
 |.ptr _ b,a=>∀d,a=Y d->pL b d
 |.st b,a=>pL b a
 |.pr e f,a=>pL e a.1/\pL f a.2
 |_,_=>True
def sm:ai->bA
 |.int _|.bool|.str|.nil=>bp
 |.a6 _ a|.ptr _ a|.st a=>sm a
 |.pr b c=>sm b&&sm c
 |_=>br
def Hr {P:b1} {c:ai} {a:bG} (d:e9 P c a):P.cellsOf a=c.size:=by obtain⟨f,e,b,_⟩:=d.info;unfold aox;rw[b.info];simp[b.size]
section
variable {A:Type} {enc:bG×Value->A} {P:b1} {w:bD}
theorem Hs {h:X} {b:Addr} {c:ajT} (d:w.cells? h b a=Y c) (f:0<a):b.spot=bq/\c.length=a/\b.block<w.heap.size/\fd w b.block b.off c:=by
 have l:=World.cells?_block d f;obtain⟨_,k,e⟩:=World.cells?_some d;have m:b.spot=bq:=by
  have o:=e 0 f;have:(w.cell? (b.add 0)).isSome=bp:=(by grind);simp only[amA,cg] at this;unfold ak6 at this;split at this
  ·cases p:b.spot with
   |none=>rfl
   |some t=>grind
  grind
 refine⟨m,k,l,λg s i=>?_⟩;have j:g<a:=(by grind);have:=e g j;rw[i] at this;rw[<-this];congr 1;unfold amA;obtain⟨n,q,r⟩:=b;grind
def Ct (w:bD):dh->X->Prop:=λ_ a=>a<w.heap.size
mutual
theorem Gq:∀{τ:ai} {j:bG} {i:ajT} {l:X} {o:DataW A×bn alA},sm τ=bp->e9 P τ j->anF enc P w 0 (λ_=>bp) bp l j i=Y o->∃a:τ.den,aT (Ct w) w τ i a []/\pL τ a
 |.int n,j,i,l,o,_,⟨b,_,_,_,_,h⟩,d=>by obtain⟨x,rfl,_,ad⟩:=DataW.trod_int h d;exact⟨x,⟨bo,bo⟩,ad⟩
 |.bool,j,i,l,o,_,⟨b,_,_,_,_,h⟩,d=>by obtain⟨y,rfl,_⟩:=DataW.trod_bool h d;exact⟨y,⟨bo,bo⟩,trivial⟩
 |.str,j,i,l,o,_,⟨b,_,_,_,_,h⟩,d=>by obtain⟨av,rfl,_,_⟩:=DataW.trod_string h d;exact⟨av,⟨bo,bo⟩,trivial⟩
 |.a6 an c,j,i,l,o,g,⟨b,O,_,_,_,_,h,m⟩,d=>by
  rcases DataW.trod_slice h d with⟨rfl,_⟩|⟨e,u,Q,F,dg,x,rfl,rfl,_,_,co,bs,bx,K,_⟩
  ·exact⟨[],⟨bo,bq,0,bo,bd _,λ_=>rfl,.inl bo⟩,by grind,ac⟩
  have H:=Hr m;have L:=m.pos;have E:∀b,b<u->∃a:c.den,∃f:ajT,f.length=c.size/\w.cells? 0 (e.add (b*c.size)) c.size=Y f/\aT (Ct w) w c f a []/\pL c a:=by
   intro b v;have s:=K b v;have t:F[b]?=Y (F[b]'(by omega)):=bk _
   rw[t] at s;obtain⟨f,q,z⟩:=eL.1 s;rw[H] at q;obtain⟨a,k,r⟩:=Gq (τ:=c) g m z;exact⟨a,f,k.len,q,k,r⟩
  have U:∀n,n<=u->∃p:bn c.den,p.length=n/\∀(b:X) (a:c.den),p[b]?=Y a->∃f:ajT,f.length=c.size/\w.cells? 0 (e.add (b*c.size)) c.size=Y f/\aT (Ct w) w c f a []/\pL c a:=by
   intro n
   induction n with
   |zero=>simp_all
   |succ n am=>
    intro ce;obtain⟨p,s,t⟩:=am aa;obtain⟨a,f,q⟩:=E n aa;refine⟨p++[a],by grind,λb M D=>?_⟩;grind
  obtain⟨p,s,t⟩:=U u (bd _);refine⟨p,⟨bo,Y e,Q,by rw[s],aa,(λd=>by cases d),?_⟩,aa,λa k=>?_⟩
  ·cases u with
   |zero=>grind
   |succ u=>
    right;obtain⟨dl,a4,_,I,_⟩:=E 0 aa;have T:e.add (0*c.size)=e:=(by simp[amA]);rw[T] at I;obtain⟨V,_,C,_⟩:=Hs I L;refine⟨e.block,e.off,by obtain⟨y,ap,a0⟩:=e;grind,C,λb a k=>?_⟩;obtain⟨f,a1,S,a3,_⟩:=t b a k;obtain⟨_,_,_,G⟩:=Hs S L;grind [ao,amA]
  obtain⟨b,v,rfl⟩:=hG.1 k;obtain⟨_,_,_,_,r⟩:=t b _ (bk v);exact r
 |.ptr an c,j,i,l,o,g,⟨b,O,_,_,_,_,h,m⟩,d=>by
  rcases DataW.trod_pointer h d with⟨rfl,_⟩|⟨e,R,a,x,rfl,rfl,_,q,z⟩
  ·exact⟨bq,⟨bo,bo⟩,λa d=>by cases d⟩
  rw[Hr m] at q;obtain⟨M,D,r⟩:=Gq (τ:=c) g m z;obtain⟨V,_,C,G⟩:=Hs q m.pos;refine⟨Y M,⟨bo,e.block,e.off,R,by obtain⟨y,ap,a0⟩:=e;grind,C,D.len,G,D⟩,λa d=>by grind⟩
 |.st c,j,i,l,o,g,⟨_,b,N,ds,v,cv,_,_,h,J,_⟩,d=>by
  obtain⟨p,x,rfl,_,ci,c1,K⟩:=DataW.trod_struct h d;have H:P.cellsOf j=c.size:=(by grind [aox]);obtain⟨a,k,r⟩:=S1 (τ:=c) (fs:=N.toList) (cs:=i) g J aa (λc2 bl J=>by
   grind)
  rw[mT] at k;exact⟨a,k,r⟩
 |.osl _,_,_,_,_,g,_,_=>by cases g
 |.optr _,_,_,_,_,g,_,_=>by cases g
 |.pr _ _,_,_,_,_,_,B,_=>B.elim
 |.nil,_,_,_,_,_,B,_=>B.elim
 |.eB,_,_,_,_,g,_,_=>by cases g
theorem S1:∀{τ:ai} {fs:bn akl} {c:X} {f cs:ajT},sm τ=bp->iD P τ fs c f->cs.length=c+τ.size->(∀(e:X) b,fs[e]?=Y b->∃(j:X) (k:DataW A×bn alA),anF enc P w 0 (λ_=>bp) bp j b.type ((cs.drop b.offset).take (P.cellsOf b.type))=Y k)->∃l:τ.den,aT (Ct w) w τ (cs.drop c) l []/\pL τ l
 |.pr y z,b::D,c,f,cs,d,p,r,i=>by simp only[sm,cE] at d;obtain⟨n,g,B,_,o⟩:=p;obtain⟨j,k,h⟩:=i 0 b bo;rw[n,Hr g] at h;obtain⟨v,s,t⟩:=Gq d.1 g h;obtain⟨x,C,u⟩:=S1 (cs:=cs) d.2 o (by grind [akm]) (λe m q=>i (e+1) m q);exact⟨(v,x),⟨[],[],bo,s,by simp_all⟩,t,u⟩
 |.nil,[],c,f,cs,_,_,r,_=>by refine⟨(),⟨bo,?_⟩,trivial⟩;grind [List.drop_eq_nil_iff,akm]
 |.pr _ _,[],_,_,_,_,a,_,_=>a.elim
 |.nil,_::_,_,_,_,_,a,_,_=>a.elim
 |.int _,fs,_,_,_,_,a,_,_=>by cases fs<;>exact a.elim
 |.bool,fs,_,_,_,_,a,_,_=>by cases fs<;>exact a.elim
 |.str,fs,_,_,_,_,a,_,_=>by cases fs<;>exact a.elim
 |.a6 _ _,fs,_,_,_,_,a,_,_=>by cases fs<;>exact a.elim
 |.ptr _ _,fs,_,_,_,_,a,_,_=>by cases fs<;>exact a.elim
 |.osl _,fs,_,_,_,_,a,_,_=>by cases fs<;>exact a.elim
 |.optr _,fs,_,_,_,_,a,_,_=>by cases fs<;>exact a.elim
 |.st _,fs,_,_,_,_,a,_,_=>by cases fs<;>exact a.elim
 |.eB,fs,_,_,_,_,a,_,_=>by cases fs<;>exact a.elim
end
theorem acC {g:ai} {h:bG} (l:sm g=bp) (e:e9 P g h) (d:alB P w .any a h b):b=cV g b.cells.toList:=by
 cases g with
 |int r=>
  obtain⟨f,_,_,_,_,c⟩:=e;obtain⟨i,rfl⟩:=apu c d;rfl
 |bool=>
  obtain⟨f,_,_,_,_,c⟩:=e;obtain⟨i,rfl⟩:=apv c d;rfl
 |str=>
  obtain⟨f,_,_,_,_,c⟩:=e;obtain⟨i,rfl⟩:=apw c d;rfl
 |a6 m j=>
  obtain⟨f,k,_,_,_,_,c,_⟩:=e;obtain⟨n,s,o,rfl⟩:=apx c d;rfl
 |ptr m j=>
  obtain⟨f,k,_,_,_,_,c,_⟩:=e;simp only[alB,c,Cell.okWide] at d;cases b<;>first|rfl|simp_all [Cell.ok]
 |st j=>
  obtain⟨_,f,q,t,_,_,_,_,c,_,_⟩:=e;simp only[alB,c] at d;obtain⟨p,rfl,_⟩:=d;rfl
 |_=>first|(cases l;done)|exact e.elim
def w7 (P:b1):bn ho->ajS->bA
 |[],[]=>bp
 |.v a::c,b::d=>sm a&&hQ P a b&&w7 P c d
 |_,_=>br
def pM:(d:bn ho)->ht d->Prop
 |[],_=>True
 |.v e::b,a=>pL e a.1/\pM b a.2
 |.m _::b,a=>pM b a.2
 |.o _::b,a=>pM b a.2
 |.c _ _::b,a=>pM b a.2
 |.n::b,a=>pM b a.2
 |.w _::b,a=>pM b a.2
 |.s _ _::b,a=>pM b a.2
def My {P:b1}:∀{ps:bn ho} {b:ajS} {k:X},w7 P ps b=bp->jE k ps=bq
 |[],_,_,_=>rfl
 |.v g::d,e::f,k,a=>by simp only[w7,cE] at a;exact My (ps:=d) (k:=k+1) a.2
 |.v _::_,[],_,a=>by cases a
 |.m _::_,b,_,a=>by cases b<;>cases a
 |.o _::_,b,_,a=>by cases b<;>cases a
 |.c _ _::_,b,_,a=>by cases b<;>cases a
 |.n::_,b,_,a=>by cases b<;>cases a
 |.w _::_,b,_,a=>by cases b<;>cases a
 |.s _ _::_,b,_,a=>by cases b<;>cases a
def BG {b:Type}:bn b->ez
 |[]=>[]
 |_::a=>[]::BG a
theorem F2 {b:Type}:∀a:bn b,(BG a).flatten=[]
 |[]=>rfl
 |_::a=>by simp only[BG,lV,F2 a,jh]
theorem MA:∀{f:bn ho} {l:ajS} {base:X} {b:ajT} {i:bn (DataW A)} {r:bn alA},w7 P f l=bp->alC enc P w 0 (λ_=>bp) bp l b i r->(∀(j:X) k g,l[j]?=Y k->b[j]?=Y g->alB P w .any base k g)->∃h:ht f,pM f h/\∀{x:Type} (d:iQ f x),mx (y3 (λd=>d<w.heap.size) (λ_=>b7) w) (gz f h d) b (BG b)
 |[],[],base,b,i,r,_,q,_=>by cases b<;>cases i<;>first|exact⟨(),trivial,λ_=>trivial⟩|exact q.elim
 |.v U::Q,y::x,base,b,i,r,e,q,u=>by
  simp only[w7,cE] at e;obtain⟨⟨s,z⟩,B⟩:=e;obtain⟨g,T,K,L,R,S,rfl,rfl,rfl,p,C⟩:=anG q;obtain⟨M,p⟩:=p;have t:=hQ.ok z;obtain⟨J,G,F⟩:=Gq s t p;obtain⟨h,D,E⟩:=MA B C (λj k I N O=>u (j+1) k I (by grind) (by grind));refine⟨(J,h),⟨F,D⟩,λd=>⟨⟨bo,g.cells.toList,acC s t (u 0 y g bo rfl),?_⟩,E d⟩⟩;exact G.mono (λH d e=>⟨by cases H with
   |be=>exact e
   |c7=>exact .inl e,cp _ _⟩) ac
 |[],_::_,_,_,_,_,a,_,_=>by cases a
 |.v _::_,[],_,_,_,_,a,_,_=>by cases a
 |.m _::_,_,_,_,_,_,a,_,_=>by cases a
 |.o _::_,_,_,_,_,_,a,_,_=>by cases a
 |.c _ _::_,_,_,_,_,_,a,_,_=>by cases a
 |.n::_,_,_,_,_,_,a,_,_=>by cases a
 |.w _::_,_,_,_,_,_,a,_,_=>by cases a
theorem S0 {P:b1} (k:laidOutB P=bp) {i j:bD} {o:X->bA}:∀{e:ajS} {d:ajT} {c:bn (DataW A)} {b:bn alA},(∀g∈e,P.readableRec g=bp/\g<P.types.size)->alC enc P i 0 (λ_=>bp) bp e d c b->(∀a∈b,i.sameAt j a)->(∀a∈b,o a.block=bp)->alC enc P j 0 o bp e d c b
 |[],d,c,b,_,f,_,_=>by cases d<;>cases c<;>first|exact f|exact f.elim
 |T::e,d,c,b,l,f,m,n=>by obtain⟨y,z,v,w,r,s,rfl,rfl,rfl,p,q⟩:=anG f;obtain⟨t,u⟩:=l T ac;exact⟨r,s,apy k t u p (λa h=>m a (by grind)) (λa h=>n a (by grind)),S0 k (λg x=>l g (by grind)) q (λa h=>m a (by grind)) (λa h=>n a (by grind)),bo⟩
theorem Yk {E:fk} {F:js} {h:Func} {l:ChangeSpec} {T:bG} (a3:aA E F) (ek:laidOutB E.P=bp) (dg:(h.params.toList.all λe=>E.P.readableRec e&&cf e E.P.types.size)=bp) (S:w7 E.P F.ps h.params.toList=bp) (_hrs:F.rs=[.bool]) (H:h.resultTypes=#[T]) (u:E.P.underlying T=Y .bool) (am:l.vars=[]) (fp:∀d:bn (DataW A),d.length=h.params.toList.length->l.fn A d=⟨[.lit (.bool bp)],d,[]⟩) (d1:∀t,pM F.ps t->∃b,F.yQ t=Y b/\i7 F.rs (ig F.ps b)=[⟨.bool,bp⟩]) {D a0 bx av:bA} {p:ajR} {d y:bn (DataW A)} {i:bn alA} (d2:∀(r:X) e o,h.params[r]?=Y e->p[r]?=Y o->alB E.P c .any a e o) (I:DataW.Whole enc E.P h.params.toList l.vars D c p.toList d y i) (a4:lA E (λb=>b<c.heap.size) c):Calls E.P F.f p c λG g=>∃o,G=.returned o/\l.post enc E.P h D a0 bx av c p o g:=by
 have J:=I;obtain⟨B,d3,a1,z,R,ci,el⟩:=I;rw[am] at z;have co:y=[]/\d3=[]:=by cases y with
  |nil=>exact⟨bo,z⟩
  |cons=>exact z.elim
 obtain⟨rfl,rfl⟩:=co;rw[pB] at R;subst R;obtain⟨t,c2,bs⟩:=MA (w:=c) (base:=a) S a1 (λr e o V ad=>d2 r e o (by grind) (by grind));obtain⟨b,bl,dl⟩:=d1 t c2;have d9:∀{s:ajS} {C:ajT} {d:bn (DataW A)} {B:bn alA},alC enc E.P c 0 (λ_=>bp) bp s C d B->d.length=s.length:=by
  intro s
  induction s with
  |nil=>intro C d B q;cases C<;>cases d<;>first|rfl|exact q.elim
  |cons T s fs=>
   grind [anG]
 have N:l.fn A (d++[])=⟨[.lit (.bool bp)],d,[]⟩:=(by grind);have Q:=J.lt;have L:=a3.2 t b bl c (λb=>b<c.heap.size) (λ_=>b7) p.toList (BG p.toList) (λb q=>q.elim id (λq=>q.elim)) (bs b) (by grind [F2]) (by rw[F2];simp) (by rw[BO,My S];trivial);rw[aoy] at L;refine(L a4).mono ?_;rintro G g ⟨d4,d6,v,cJ,rfl,n⟩;refine⟨_,bo,?_⟩;have d0:qg cJ=.bool bp:=by
  have:=n.res;rw[dl] at this;cases cJ with
  |nil=>cases v<;>exact this.elim
  |cons o cJ=>
   cases v with
   |nil=>exact this.elim
   |cons d7 v=>
    obtain⟨⟨d5,ad,_,rfl⟩,ds⟩:=this;cases cJ with
    |nil=>exact ad
    |cons=>cases v<;>exact ds.elim
 have O:∀b,b<c.heap.size->g.heap[b]?=c.heap[b]?:=λb u=>n.heap b u (by rw[F2];simp);have eq:∀j∈i,c.sameAt g j:=λj x=>by
  have:=O j.block (Q j x);cases j with
  |cell b k=>show g.cell? _=c.cell? _;unfold ak6;rw[show g.heap[b]?=c.heap[b]? from this]
  |map b=>exact this
 have ce:∀b k,aoz b k∈i->g.frozen? ⟨b,k,bq⟩=c.frozen? ⟨b,k,bq⟩:=λb k x=>(by unfold amn;rw[show g.heap[b]?=c.heap[b]? from O b (Q _ x)]);rw[d0];have em:∀e∈h.params.toList,E.P.readableRec e=bp/\e<E.P.types.size:=λe V=>(by have:=gU.1 dg e V;simp_all);have K:∀m:X->bA,(∀j∈i,m j.block=bp)->alC enc E.P g 0 m bp h.params.toList p.toList (l.fn A (d++[])).args i:=λm ex=>(by grind [S0]);have U:∀(b:X) (m:X->bA) (M:bA),alC enc E.P g b m M h.resultTypes.toList ((aoA bp).resultList h.resultTypes.size) (l.fn A (d++[])).results []:=λb m M=>(by rw[N,H];exact apz ⟨1,by unfold anF;rw[u];rfl⟩);have an:∀m:X->bA,DataW.TrodVars enc E.P g m l.vars (l.fn A (d++[])).vars []:=λm=>(by rw[N,am];rfl);have cv:∀(r:X) (e:bG) (ap:Value),h.resultTypes[r]?=Y e->((aoA bp).resultList h.resultTypes.size)[r]?=Y ap->alB E.P g .any 0 e ap:=
  Go.RowKit.ok_one H bo (Go.RowKit.okWide_bool_mk u bp)
 have c1:∀j∈i,(λb=>bu (b<c.heap.size)) j.block=bp:=λj x=>(by grind);have cs:c.keptBut g (λ_=>b7):=(by refine⟨n.os,n.output,λfr d8=>?_⟩;grind);refine⟨d,[],i,[],i,[],J,U _ _ _,K _ c1,an _,World.keptBut_mono (λ_ q=>q.elim) cs,λ_=>?_⟩;refine⟨cv,_,_,([]++i)++[],⟨[]++i,[],apA (K _ (λ_ _=>rfl)) (U _ _ _),an _,bo,?_,?_⟩,?_⟩
 ·intro b k n;have n:aoz b k∈i:=(by grind);rw[ce b k n];exact ci b k n
 ·grind
 grind
end
end
section
inductive Gz where
 |a
 |b (f:ajZ)
 |c (f m:ajZ)
def Ig (a:X):X:=a/32+a %32*500000
abbrev ma (a:X):X×oZ:=(a,.s (.ref a []))
abbrev B1 (a:X):X×oZ:=(a,.v (.int .i64))
inductive oU where
 |l
 |o (a:oU)
 |t (j:GD) (a b:oU)
 |n (b:oU)
 |p (BR:nq) (m:GF) (a:oU)
 |k (l:ajZ) (a:oU)
 |z (F:ajZ) (a:oU)
 |d (L:bn Gz)
def F7 (b:bU bS) (a:X) (f c:ajZ):lS:=match b[a]? with
 |some d=>⟨a,dl d,d.looksAt b,qd b a,f,c⟩
 |none=>⟨a,[],[],[],f,c⟩
def Es (d:bU bS):X->bn Gz->bn lS
 |_,[]=>[]
 |i,.a::e=>F7 d i [] []::Es d (i+1) e
 |i,.b f::e=>F7 d i (f.map Ig) []::Es d (i+1) e
 |i,.c f g::e=>F7 d i (f.map Ig) (g.map Ig)::Es d (i+1) e
def s3:Code->mj
 |.seq a b=>.two .none (s3 a) (s3 b)
 |.cond _ a b=>.two .none (s3 a) (s3 b)
 |.block _ a=>.one (s3 a)
 |.region _ c bp=>.draw ((bL c.size).map λd=>F7 c d [] [])
 |_=>.leaf
def Bq:X->X->bn aZ
 |0,_=>[]
 |k+1,a=>match a %5 with
  |1=>.deref::Bq k (a/5)
  |2=>.unst::Bq k (a/5)
  |3=>.fst::Bq k (a/5)
  |4=>.snd::Bq k (a/5)
  |_=>[]
def oU.ex:oU->Code->mj
 |.l,a=>s3 a
 |.o b,.block _ a=>.one (b.ex a)
 |.t J b c,.seq a e=>.two J (b.ex a) (c.ex e)
 |.t J b c,.cond _ a e=>.two J (b.ex a) (c.ex e)
 |.n c,.seq a e=>.two .none (s3 a) (c.ex e)
 |.n c,.cond _ a e=>.two .none (s3 a) (c.ex e)
 |.p j h b,.loop a=>.loop j h (b.ex a)
 |.k g b,a=>.keep g (b.ex a)
 |.z f b,a=>match f with
  |[q]=>bif b3 1000000 q then .fp (q %1000000) (Bq 12 (q/1000000)) (b.ex a) else bif bI q 888888 then .zH else .p5 f (b.ex a)
  |_=>.p5 f (b.ex a)
 |.d g,.region _ i _=>.draw (Es i 0 g)
 |_,_=>.leaf
def zm (E:fk):Type:={a:bn (X×js)//∀b∈a,aA E b.2}
def aD {E:fk}:zm E:=⟨[],SR⟩
def ah {E:fk} {a:js} (c:aA E a) (b:zm E):zm E:=⟨(a.f,a)::b.1,afl c b.2⟩
section
variable {E:fk} {f:X} {fn:Func} {ps:bn ho} {C:bn ai} {D:ht ps->bw (iQ ps (lM C))}
def aA.q (d:zm E) (l:oU) (k:E.P.funcs[f]?=Y fn) (j:∀(h:ajR) (i:bD),(callFunc f h).run E.P i=.ok (.enter f h) i) (g:bn (X×ai):=[]) (e:aj1:=[]) (a:(fn.body.isSome&&b3 ps.length fn.ntmps)=bp:=by kernel_rfl) (c:∀b,AT ⟨E.tt,d.1,g,fn.ntmps,j7 0 ps++nS (jE 0 ps),[],e,jE 0 ps,[],[],E.glob,E.eqs⟩ (l.ex (fn.body.getD .skip)) (fn.body.getD .skip) ps fn.results.toList C b=D b:=by intro b;kernel_rfl):aA E ⟨f,ps,C,D⟩:=
 have a:=cE _ _▸a
 aA.Qd d.1 g e _ [] (λ_ c=>by cases c) k a.1 aoy.symm a.2 j d.2 c
end
end
def lr (a:X):X×X:=bif cf (a %32) 28 then(a %32,a/32) else bif bI (a %32) 31 then(a/32 %134217728,a/4294967296) else((a %32-28)*256+a/32 %256+28,a/8192)
def nO {c:Type} (b:X->c×X):X->X->bn c×X
 |0,a=>([],a)
 |k+1,a=>match a %2 with
  |0=>([],a/2)
  |_=>match b (a/2) with
   |(x,t)=>match nO b k t with
    |(l,u)=>(x::l,u)
def KD (a:bn ai) (b:X):ai×X:=match lr b with
 |(i,t)=>(a.getD i .nil,t)
def nP {a b:Type} (c:X->a×X) (d:X->b×X) (e:X):(a×b)×X:=match c e with
 |(x,t)=>match d t with
  |(y,u)=>((x,y),u)
def adK (b:bn ai) (a:X):(X×oZ)×X:=match a %4 with
 |0=>match lr (a/4) with
  |(k,t)=>(ma k,t)
 |1=>match lr (a/4) with
  |(k,t)=>(B1 k,t)
 |2=>match nP lr (KD b) (a/4) with
  |((k,x),t)=>((k,.v x),t)
 |_=>match nP lr lr (a/4) with
  |((k,x),t)=>((k,.s (.ref x [])),t)
def BA (a:bn ai) (b:X):nq×X:=match nP (nO (adK a) 99) (nO (nP lr (KD a)) 99) b with
 |((x,y),t)=>(⟨x,y⟩,t)
def adJ (b:bn ai) (a:X):GD×X:=match a %3 with
 |0=>(.none,a/3)
 |1=>match nP (nO lr 99) (BA b) (a/3) with
  |((x,y),t)=>(.x x y,t)
 |_=>match nP (nO lr 99) (BA b) (a/3) with
  |((x,y),t)=>(.wo x y,t)
def adL (b:bn ai) (a:X):GF×X:=match a %3 with
 |0=>(.r,a/3)
 |1=>match nP lr (BA b) (a/3) with
  |((x,y),t)=>(.x x y,t)
 |_=>match nP lr (BA b) (a/3) with
  |((x,y),t)=>(.wo x y,t)
def KB (a:X):X×X:=match a %2 with
 |0=>match lr (a/2) with
  |(k,t)=>(k*32,t)
 |_=>match lr (a/64) with
  |(k,t)=>(k*32+a/2 %32,t)
def adI (d:X):Gz×X:=match d %3 with
 |0=>(.a,d/3)
 |1=>match nO KB 99 (d/3) with
  |(x,t)=>(.b x,t)
 |_=>match nP (nO KB 99) (nO KB 99) (d/3) with
  |((x,y),t)=>(.c x y,t)
def tI (e:bn ai):X->X->oU×X
 |0,c=>(.l,c)
 |k+1,c=>match c %8 with
  |0=>(.l,c/8)
  |1=>match tI e k (c/8) with
   |(a,t)=>(.o a,t)
  |2=>match adJ e (c/8) with
   |(f,t)=>match tI e k t with
    |(a,t)=>match tI e k t with
     |(b,t)=>(.t f a b,t)
  |3=>match tI e k (c/8) with
   |(a,t)=>(.n a,t)
  |4=>match nP (BA e) (adL e) (c/8) with
   |((x,y),t)=>match tI e k t with
    |(a,t)=>(.p x y a,t)
  |5=>match nO lr 99 (c/8) with
   |(x,t)=>match tI e k t with
    |(a,t)=>(.k x a,t)
  |6=>match nO lr 99 (c/8) with
   |(x,t)=>match tI e k t with
    |(a,t)=>(.z x a,t)
  |_=>match nO adI 999 (c/8) with
   |(x,t)=>(.d x,t)
def KC (b:bn ai) (c:X):oU×bn (X×ai)×aj1:=match tI b 999 c with
 |(a,t)=>match nP (nO (nP lr (KD b)) 99) (nO (nP lr lr) 99) t with
  |((x,y),_)=>(a,x,y)
def Vv {c:b1} {b:Func} (i:c.funcs[a]?=Y b) (j:(b.name=="runtime.NumGoroutine")=br) (h:b.body.isSome=bp) (d:ajR) (e:bD):(callFunc a d).run c e=.ok (.enter a d) e:=by have f:b.name≠"runtime.NumGoroutine":=(by simpa using j);obtain⟨k,g⟩:=GL.1 h;simp[callFunc,i,f,g,Sem.run]
section
def ae {α:Type} (c:bw α) (b:α->Prop):Prop:=∃a,c=Y a/\b a
section
variable {α A σ ρ τ:Type}
theorem ae.ag {a:α} {b:α->Prop}:ae (Y a) b↔b a:=⟨λ⟨_,c,d⟩=>by grind,λc=>⟨a,bo,c⟩⟩
theorem ae.tx {a:α->Prop}:ae bq a↔False:=⟨(λ⟨_,b,_⟩=>by cases b),False.elim⟩
theorem ae.e0 {x:bw α} {b:α->bw A} {a:A->Prop}:ae (x.bind b) a↔ae x (λc=>ae (b c) a):=by
 cases x with
 |none=>grind [ae.tx]
 |some c=>grind [ae.ag]
theorem ae.Jt {a:bw α} {c:α->A} {b:A->Prop}:ae (a.map c) b↔ae a (λd=>b (c d)):=by
 cases a with
 |none=>grind [ae.tx]
 |some d=>grind [ae.ag]
theorem ae.e4 {b:bA} {c d:bw α} {a:α->Prop}:ae (bif b then c else d) a↔(b=bp->ae c a)/\(b=br->ae d a):=by grind
theorem ae.mono {c:bw α} {P b:α->Prop} (d:ae c P) (g:∀a,P a->b a):ae c b:=let⟨a,e,f⟩:=d;⟨a,e,g a f⟩
def ae.eq_iff {c:bw α} {b:α}:ae c (· =b)↔c=Y b:=⟨λ⟨e,a,d⟩=>by rw[a,d],λa=>⟨b,a,bo⟩⟩
theorem ae.OA {a:bn α} {b:α->Prop}:ae (aj a d) b↔∃(e:d.toNat<a.length),0<=d/\b a[d.toNat]:=by
 unfold aj;by_cases c:0<=d
 ·rw[ax c];grind [al1,ae.tx,b0,ae.ag]
 rw[aw c,ae.tx];grind
theorem ae.kU {b:bn α} {c:α->Prop}:ae (aj b (a:Z)) c↔∃(d:a<b.length),c b[a]:=by rw[ae.OA];simp
theorem ae.EZ:ae (bf a d) j↔(0<=d/\d.toNat<a)/\j d.toNat:=by
 unfold bf;by_cases b:0<=d/\d.toNat<a
 ·simp_all [ax,ae.ag]
 rw[aw b,ae.tx];simp[b]
theorem ae.yh {b:bt->Prop}:ae (bh a) b↔a<=hB/\b ():=by
 unfold bh;by_cases c:a<=hB
 ·simp_all [ax,ae.ag]
 rw[aw c,ae.tx];simp[c]
theorem ae.Js {a:Z}:ae (fj d a) j↔(0<=d/\d<=a/\a<=(hB:Z))/\j d.toNat:=by
 unfold fj;by_cases b:0<=d/\d<=a/\a<=(hB:Z)
 ·simp_all [ax,ae.ag]
 rw[aw b,ae.tx];simp[b]
def a8 (d:bn α) (c:X) (b:α->bw A):bw A:=match d[c]? with
 |some a=>b a
 |none=>bq
theorem ae.CJ {b:bn α} {d:α->bw A} {c:A->Prop}:ae (a8 b a d) c↔∃(e:a<b.length),ae (d b[a]) c:=by grind [al1,ae.tx,b0,a8]
theorem ae.loop {g:σ->bw (σ⊕ρ)} {f:ρ->Prop} (d:σ->Prop) (e:σ->X) {a:σ} (m:d a) (k:∀a,d a->ae (g a) (λ|.inl l=>d l/\e l<e a|.inr b=>f b)):ae (loop g a) f:=by
 have o:∀c a,e a<=c->d a->∃b,kf g (c+1) a=Y b/\f b:=by
  intro c
  induction c with
  |zero=>
   intro a n j;obtain⟨p,h,i⟩:=k a j;grind [kf]
  |succ c q=>
   intro a n j;obtain⟨p,h,i⟩:=k a j;grind [kf]
 obtain⟨b,h,i⟩:=o (e a) a (bd _) m;exact⟨b,yk.2 ⟨_,h⟩,i⟩
theorem ae.for {h:Z×τ->bw ((Z×τ)⊕ρ)} {g:ρ->Prop} (b:X) (e:X->τ->Prop) {i0:X} {m:τ} (o:d=(i0:Z)) (n:e i0 m) (k:i0<=b) (q:∀a c,i0<=a->a<b->e a c->ae (h ((a:Z),c)) (λ|.inl l=>l.1=((a+1:X):Z)/\e (a+1) l.2|.inr i=>g i)) (s:∀c,e b c->ae (h ((b:Z),c)) (λ|.inl _=>b7|.inr i=>g i)):ae (jt.loop h (d,m)) g:=by
 subst o;refine ae.loop (λf=>∃a:X,i0<=a/\a<=b/\f.1=(a:Z)/\e a f.2) (λf=>b-f.1.toNat) ⟨i0,bd _,k,bo,n⟩ ?_;rintro⟨t,c⟩ ⟨a,p,k,rfl,r⟩;rcases cR a b with j|j
 ·refine(q a c p j r).mono ?_;grind
 grind [mono]
end
theorem af9 (a:Z):bK.wrap a=if(9223372036854775808:Z)<=a %18446744073709551616 then a %18446744073709551616-18446744073709551616 else a %18446744073709551616:=by
 unfold alD;by_cases b:(9223372036854775808:Z)<=a %18446744073709551616
 ·rw[ax b];exact ax (show(bp&&bu (a %18446744073709551616>=(9223372036854775808:Z)))=bp by simp[b])
 rw[aw b];exact aw (show¬(bp&&bu (a %18446744073709551616>=(9223372036854775808:Z)))=bp by simp[b])
theorem wrap64 (a:-9223372036854775808<=d) (b:d<=9223372036854775807):bK.wrap d=d:=by grind [af9]
theorem iS (b:a<9223372036854775807):bK.wrap ((a:Z)+1)=((a+1:X):Z):=by grind [wrap64]
end
section
abbrev ak {α:Type} (a:bn α):Z:=((a.length:X):Z)
abbrev au (a:Z):Z:=bK.wrap a
abbrev aY (a:Z):Z:=bE.wrap a
abbrev eS (a:Z):Z:=cb.wrap a
abbrev aH (a:Z):Z:=bK.wrap (a+1)
def rd {α A:Type} (a:bn α) (c:Z) (e:α->bw A):bw A:=(bf a.length c).bind λd=>(a8 a d λb=>Y b).bind e
def wr {α A:Type} (a:bn α) (c:Z) (e:α) (d:bn α->bw A):bw A:=(bf a.length c).bind λb=>(a8 a b λ_=>Y (a.set b e)).bind d
section
variable {α A:Type}
def jq {b:bn α} (d:a<b.length) (c:α->bw A):rd b (a:Z) c=c b[a]:=by unfold rd bf;rw[ax ⟨aa,by simpa using d⟩];show(a8 b (a:Z).toNat _).bind c=_;unfold a8;rw[fF,bk d];rfl
def adN {b:bn α} {c:α} (f:0<=d) (e:b[d.toNat]?=Y c) (a:α->bw A):rd b d a=a c:=by obtain⟨g,h⟩:=hN.1 e;obtain⟨j,rfl⟩:=fZ f;have i:j<b.length:=g;exact(jq i a).trans (b4 a h)
theorem mh {b:bn α} (d:a<b.length) (e:α) (c:bn α->bw A):wr b (a:Z) e c=c (b.set a e):=by unfold wr bf;rw[ax ⟨aa,by simpa using d⟩];show(a8 b (a:Z).toNat _).bind c=_;unfold a8;rw[fF,bk d];rfl
end
end
def Dc:ec->ajX:=λ(e,h,_)=>(loop (σ:=ep) (ρ:=ef) (λ(f,c,_)=>bif bu (c<((e.length:X):Z)) then(bC (α:=es⊕dM) ((aj e c).bind λd=>bC (α:=bt⊕(es⊕dM)) (bz (bu (d<=f)==br) (bz (bu (d>=h)) (Y (.inr (.inr (.inr (.inr (br,())))))) (Y (.inl ()))) (Y (.inr (.inr (.inr (.inr (br,()))))))) λa=>match a with
 |.inl _=>(Y (.inl (d,())))
 |.inr b=>Y b) λa=>match a with
 |.inl (g,_)=>(Y (.inl (g,bK.wrap (c+(1:Z)),())))
 |.inr b=>Y b) else Y (.inr (.inl ()))) ((-1:Z),(0:Z),())).bind λa=>match a with
 |.inl _=>(Y (bp,()))
 |.inr b=>Y b
def su:es->ajX:=λ(a,_)=>Y ((a !=a),())
def uR:ep->ajX:=λ(a,b,_)=>(su (a,())).bind λ(c,_)=>(bz (c==bp) ((su (b,())).bind λ(aL,_)=>bz ((!aL)==br) (Y (bu (a<b),())) (Y (bp,()))) (Y (bu (a<b),())))
def DL:es->ajX:=λ(a,_)=>Y ((a !=a),())
def u1:ec->bw ej:=λ(b,e,_)=>(loop (σ:=ep) (ρ:=es) (λ(c,d,_)=>bz (bu (c<d)) ((eJ bE (bE.wrap (bK.wrap (c+d))) (1:Z)).bind λf=>(aj b (bK.wrap f)).bind λk=>(uR (k,e,())).bind λ(i,_)=>bz i (Y (.inl (bK.wrap (bK.wrap f+(1:Z)),d,()))) (Y (.inl (c,bK.wrap f,())))) (Y (.inr (c,())))) ((0:Z),((b.length:X):Z),())).bind λ(a,_)=>(bz (bu (a<((b.length:X):Z))==bp) ((aj b a).bind λl=>bz ((l==e)==br) ((aj b a).bind λj=>(DL (j,())).bind λ(g,_)=>bz (g==bp) ((DL (e,())).bind λ(h,_)=>Y (a,h,())) (Y (a,br,()))) (Y (a,bp,()))) (Y (a,br,())))
def xp:(dY×Z×Z×bt)->ajX:=λ(a,c,d,_)=>(aj a.1 c).bind λe=>(u1 (e,d,())).bind λ(_,b,_)=>Y (b,())
def zS:dS->ajY:=λ(a,_)=>(bif bu ((((a.1).length:X):Z)>(200:Z)) then Y ((6:Z),()) else((loop (σ:=es) (ρ:=eh) (λ(d,_)=>bif bu (d<(((a.1).length:X):Z)) then(bC (α:=bt⊕dR) ((aj a.1 d).bind λj=>(Dc (j,(((a.1).length:X):Z),())).bind λ(aL,_)=>bz ((!aL)==br) ((xp (a,d,d,())).bind λ(i,_)=>bz i (Y (.inr (.inr (.inr ((1:Z),()))))) (Y (.inl ()))) (Y (.inr (.inr (.inr ((1:Z),())))))) λb=>match b with
 |.inl _=>(Y (.inl (bK.wrap (d+(1:Z)),())))
 |.inr c=>Y c) else Y (.inr (.inl ()))) ((0:Z),())).bind λb=>match b with
 |.inl _=>((loop (σ:=es) (ρ:=eh) (λ(e,_)=>bif bu (e<(((a.1).length:X):Z)) then((aj a.1 e).bind λg=>(loop (σ:=es) (ρ:=dK) (λ(f,_)=>bz (bu (f<((g.length:X):Z))) ((aj g f).bind λk=>(xp (a,k,e,())).bind λ(h,_)=>bz (!h) (Y (.inr (.inr (.inr (.inr ((1:Z),())))))) (Y (.inl (bK.wrap (f+(1:Z)),())))) (Y (.inr (.inl ())))) ((0:Z),())).bind λb=>match b with
 |.inl _=>(Y (.inl (bK.wrap (e+(1:Z)),())))
 |.inr c=>Y c) else Y (.inr (.inl ()))) ((0:Z),())).bind λb=>match b with
 |.inl _=>(Y ((0:Z),()))
 |.inr c=>Y c)
 |.inr c=>Y c))
def DO:(aj0×aj0×bt)->ajX:=λ(b,c,_)=>(bif ((b.length:X):Z)!=((c.length:X):Z) then Y (br,()) else((loop (σ:=es) (ρ:=ef) (λ(a,_)=>bz (bu (a<((b.length:X):Z))) ((aj b a).bind λf=>(aj c a).bind λg=>bz (f !=g) (Y (.inr (.inr (br,())))) (Y (.inl (bK.wrap (a+(1:Z)),())))) (Y (.inr (.inl ())))) ((0:Z),())).bind λd=>match d with
 |.inl _=>(Y (bp,()))
 |.inr e=>Y e))
def Ad:en->ajX:=λ(b,_)=>(loop (σ:=es) (ρ:=ef) (λ(a,_)=>bz (bu (a<((b.length:X):Z))) ((aj b a).bind λe=>(aj b (bK.wrap (a-(1:Z)))).bind λf=>bz (bu (e<=f)) (Y (.inr (.inr (br,())))) (Y (.inl (bK.wrap (a+(1:Z)),())))) (Y (.inr (.inl ())))) ((1:Z),())).bind λc=>match c with
 |.inl _=>(Y (bp,()))
 |.inr d=>Y d
def Ao:dV->bw dS:=λ(f,_)=>(loop (σ:=du) (ρ:=dv) (λ(b,l,i,_)=>bif bu (b<((f.length:X):Z)) then(loop (σ:=(Z×dY×dY×aj0×bt)) (ρ:=dq) (λ(a,e,c,d,_)=>bif bu (a<((f.length:X):Z)) then bC (α:=dq) (bC (α:=(bA×dY×dY×aj0×bt)) (bz ((b !=a)==bp) ((aj f b).bind λt=>(aj t a).bind λu=>bz (u==br) ((aj f a).bind λv=>(aj v b).bind λw=>Y (w,e,c,d,())) (Y (bp,e,c,d,()))) (Y (br,e,c,d,()))) λ(q,m,j,h,_)=>
 bz q ((bh (h.length+([a]).length)).bind λ_=>Y (m,j,(h++[a]),())) (Y (m,j,h,()))) λ(r,n,p,_)=>Y (.inl (bK.wrap (a+(1:Z)),r,n,p,())) else Y (.inr (e,c,d,()))) ((0:Z),l,i,[],())).bind λ(s,g,k,_)=>(bh ((g.1).length+([k]).length)).bind λ_=>Y (.inl (bK.wrap (b+(1:Z)),s,((g.1++[k]),g.2),())) else Y (.inr (l,i,()))) ((0:Z),([],()),([],()),())).bind λ(_,o,_)=>Y (o,())
def sI:ec->ajX:=λ(b,e,_)=>(loop (σ:=es) (ρ:=ef) (λ(a,_)=>bz (bu (a<((b.length:X):Z))) ((aj b a).bind λf=>bz (f==e) (Y (.inr (.inr (bp,())))) (Y (.inl (bK.wrap (a+(1:Z)),())))) (Y (.inr (.inl ())))) ((0:Z),())).bind λc=>match c with
 |.inl _=>(Y (br,()))
 |.inr d=>Y d
def vb:dS->ajY:=λ(a,_)=>(bif bu ((((a.1).length:X):Z)>(200:Z)) then Y ((6:Z),()) else((loop (σ:=es) (ρ:=eh) (λ(b,_)=>bif bu (b<(((a.1).length:X):Z)) then(aj a.1 b).bind λh=>(Ad (h,())).bind λ(aL,_)=>bif !aL then Y (.inr (.inr ((1:Z),()))) else((loop (σ:=es) (ρ:=dK) (λ(f,_)=>(aj a.1 b).bind λi=>bif bu (f<((i.length:X):Z)) then(bC (α:=bt⊕dx) ((aj a.1 b).bind λj=>(aj j f).bind λe=>bz (bu (e<(0:Z))==br) (bz (bu (e>=(((a.1).length:X):Z))==br) (bz ((e==b)==br) ((aj a.1 e).bind λk=>(sI (k,b,())).bind λ(g,_)=>bz (!g) (Y (.inr (.inr (.inr (.inr (.inr ((1:Z),()))))))) (Y (.inl ()))) (Y (.inr (.inr (.inr (.inr (.inr ((1:Z),())))))))) (Y (.inr (.inr (.inr (.inr (.inr ((1:Z),())))))))) (Y (.inr (.inr (.inr (.inr (.inr ((1:Z),())))))))) λc=>match c with
 |.inl _=>(Y (.inl (bK.wrap (f+(1:Z)),())))
 |.inr d=>Y d) else Y (.inr (.inl ()))) ((0:Z),())).bind λc=>match c with
 |.inl _=>(Y (.inl (bK.wrap (b+(1:Z)),())))
 |.inr d=>Y d) else Y (.inr (.inl ()))) ((0:Z),())).bind λc=>match c with
 |.inl _=>(Y ((0:Z),()))
 |.inr d=>Y d))
def D9:ec->ajX:=λ(b,e,_)=>(loop (σ:=es) (ρ:=ef) (λ(a,_)=>bif bu (a<((b.length:X):Z)) then(bC (α:=bt⊕dQ) ((aj b a).bind λf=>bz (bu (f<(0:Z))==br) ((aj b a).bind λg=>bz (bu (g>=e)) (Y (.inr (.inr (.inr (br,()))))) (Y (.inl ()))) (Y (.inr (.inr (.inr (br,())))))) λc=>match c with
 |.inl _=>(Y (.inl (bK.wrap (a+(1:Z)),())))
 |.inr d=>Y d) else Y (.inr (.inl ()))) ((0:Z),())).bind λc=>match c with
 |.inl _=>(Y (bp,()))
 |.inr d=>Y d
def Ea:en->ajX:=λ(b,_)=>(loop (σ:=es) (ρ:=ef) (λ(a,_)=>bz (bu (a<((b.length:X):Z))) (((Y (0)).bind λc=>(fY a).bind λd=>(gZ c d b.length).map λ_=>(c,d)).bind λe=>(aj b a).bind λi=>(sI (((b.take e.2).drop e.1),i,())).bind λ(h,_)=>bz h (Y (.inr (.inr (bp,())))) (Y (.inl (bK.wrap (a+(1:Z)),())))) (Y (.inr (.inl ())))) ((0:Z),())).bind λf=>match f with
 |.inl _=>(Y (br,()))
 |.inr g=>Y g
def Ap:dS->bw dV:=λ(a,_)=>(loop (σ:=dT) (ρ:=dV) (λ(c,g,_)=>bz (bu (c<(((a.1).length:X):Z))) ((fj (((a.1).length:X):Z) (((a.1).length:X):Z)).bind λj=>(loop (σ:=(Z×ey×ajW×bt)) (ρ:=(ey×ajW×bt)) (λ(d,h,b,_)=>(aj a.1 c).bind λm=>bz (bu (d<((m.length:X):Z))) ((aj a.1 c).bind λn=>(aj n d).bind λl=>(bf b.length l).bind λe=>(a8 b e λ_=>Y (b.set e bp)).bind λo=>Y (.inl (bK.wrap (d+(1:Z)),h,o,()))) (Y (.inr (h,b,())))) ((0:Z),g,bJ j br,())).bind λ(f,i,_)=>(bh (f.length+([i]).length)).bind λ_=>Y (.inl (bK.wrap (c+(1:Z)),(f++[i]),()))) (Y (.inr (g,())))) ((0:Z),[],())).bind λ(k,_)=>
 Y (k,())
def Aq:es->bw dV:=λ(a,_)=>(loop (σ:=dT) (ρ:=dV) (λ(c,b,_)=>bz (bu (c<a)) ((fj a a).bind λd=>(bh (b.length+([bJ d br]).length)).bind λ_=>Y (.inl (bK.wrap (c+(1:Z)),(b++[bJ d br]),()))) (Y (.inr (b,())))) ((0:Z),[],())).bind λ(e,_)=>Y (e,())
def Eb:dI->bw dO:=λ(e,a,_)=>(vb (e,())).bind λ(j,_)=>(bif j !=(0:Z) then Y (([],()),j,()) else(D9 (a,(((e.1).length:X):Z),())).bind λ(aL,_)=>bif !aL then Y (([],()),(3:Z),()) else(Ea (a,())).bind λ(r,_)=>bif r then Y (([],()),(90:Z),()) else(Ap (e,())).bind λ(s,_)=>(Aq (((a.length:X):Z),())).bind λ(t,_)=>(loop (σ:=dy) (ρ:=dA) (λ(c,l,i,_)=>bif bu (c<((a.length:X):Z)) then(loop (σ:=dy) (ρ:=dA) (λ(d,k,b,_)=>bif bu (d<((a.length:X):Z)) then(bf b.length c).bind λf=>(aj a c).bind λv=>
 (aj s v).bind λw=>(aj a d).bind λx=>(aj w x).bind λy=>((a8 b f λm=>Y m).bind λn=>bf n.length d).bind λh=>(a8 b f λg=>(a8 g h λ_=>Y (g.set h y)).map λz=>b.set f z).bind λA=>Y (.inl (bK.wrap (d+(1:Z)),k,A,())) else Y (.inr (k,b,()))) ((0:Z),l,i,())).bind λ(u,o,_)=>Y (.inl (bK.wrap (c+(1:Z)),u,o,())) else Y (.inr (l,i,()))) ((0:Z),([],()),t,())).bind λ(_,p,_)=>(Ao (p,())).bind λ(q,_)=>Y (q,(0:Z),()))
def Ec:dS->bw dD:=λ(a,_)=>(Ap (a,())).bind λ(c,_)=>(fj (((a.1).length:X):Z) (((a.1).length:X):Z)).bind λb=>Y ((c,(bJ b br,())),())
def As:(bw dN×Z×bt)->bw en:=λ(b,h,_)=>(loop (σ:=ed) (ρ:=en) (λ(a,d,_)=>b.bind λj=>bz (bu (a<(((j.1).length:X):Z))) (bC (α:=en) (bC (α:=(bA×aj0×bt)) (b.bind λk=>(aj k.1 h).bind λl=>(aj l a).bind λm=>bz (m==bp) (b.bind λn=>(aj n.2.1 a).bind λi=>Y ((!i),d,())) (Y (br,d,()))) λ(g,c,_)=>bz g ((bh (c.length+([a]).length)).bind λ_=>Y ((c++[a]),())) (Y (c,()))) λ(e,_)=>Y (.inl (bK.wrap (a+(1:Z)),e,()))) (Y (.inr (d,())))) ((0:Z),[],())).bind λ(f,_)=>Y (f,())
def Ar:(dN×Z×bt)->bw dD:=λ(h,l,_)=>(As (Y h,l,())).bind λ(e,_)=>(loop (σ:=dB) (ρ:=dD) (λ(c,i,_)=>bif bu (c<((e.length:X):Z)) then(loop (σ:=dB) (ρ:=dD) (λ(d,a,_)=>bif bu (d<((e.length:X):Z)) then bC (α:=dD) (bz (c !=d) ((aj e c).bind λr=>(bf (a.1).length r).bind λf=>(aj e d).bind λq=>((a8 a.1 f λm=>Y m).bind λn=>bf n.length q).bind λj=>((a8 a.1 f λg=>(a8 g j λ_=>Y (g.set j bp)).map λs=>(a.1).set f s).map λt=>(t,a.2)).bind λu=>Y (u,())) (Y (a,()))) λ(o,_)=>
 Y (.inl (bK.wrap (d+(1:Z)),o,())) else Y (.inr (a,()))) ((0:Z),i,())).bind λ(p,_)=>Y (.inl (bK.wrap (c+(1:Z)),p,())) else Y (.inr (i,()))) ((0:Z),h,())).bind λ(b,_)=>(bf (b.2.1).length l).bind λk=>(((a8 b.2.1 k λ_=>Y ((b.2.1).set k bp)).map λv=>(v,b.2.2)).map λw=>(b.1,w)).bind λx=>Y (x,())
def At:dS->bw (eA×Z×bt):=λ(b,_)=>(vb (b,())).bind λ(e,_)=>(bz (e !=(0:Z)) (Y ([],e,())) ((Ec (b,())).bind λ(i,_)=>(loop (σ:=(Z×dN×eA×bt)) (ρ:=dY) (λ(a,f,c,_)=>bz (bu (a<(((b.1).length:X):Z))) ((As (Y f,a,())).bind λ(d,_)=>(bh (([a]).length+d.length)).bind λ_=>(bh (c.length+([([a]++d)]).length)).bind λ_=>(Ar (f,a,())).bind λ(g,_)=>Y (.inl (bK.wrap (a+(1:Z)),g,(c++[([a]++d)]),()))) (Y (.inr (c,())))) ((0:Z),i,[],())).bind λ(h,_)=>Y (h,(0:Z),())))
def Dv:ep->bw ep:=λ(b,a,_)=>(eJ bE b (32:Z)).bind λc=>(eJ bE a (32:Z)).bind λd=>(eJ bE (bE.wrap (eZ bE b (4294967295:Z)*eZ bE a (4294967295:Z))) (32:Z)).bind λe=>(eJ bE (bE.wrap (bE.wrap (c*eZ bE a (4294967295:Z))+e)) (32:Z)).bind λf=>(eJ bE (bE.wrap (eZ bE (bE.wrap (bE.wrap (c*eZ bE a (4294967295:Z))+e)) (4294967295:Z)+bE.wrap (eZ bE b (4294967295:Z)*d))) (32:Z)).bind λg=>Y (bE.wrap (bE.wrap (bE.wrap (c*d)+f)+g),bE.wrap (b*a),())
def HP:ep->bw ep:=λ(b,c,_)=>(Dv (b,c,())).bind λ(a,aL,_)=>Y (a,aL,())
def DJ:ec->bw en:=λ(f,g,_)=>bC (α:=bt) (bz (bu (g<(0:Z))) bq (Y ())) λ_=>(HP (bE.wrap ((f.length:X):Z),bE.wrap g,())).bind λ(m,aL,_)=>bC (α:=bt) (bC (α:=er) (bz (bu (m>(0:Z))==br) (Y (bu (aL>(9223372036854775807:Z)),())) (Y (bp,()))) λ(n,_)=>bz n bq (Y ())) λ_=>(fj (bK.wrap aL) (bK.wrap aL)).bind λe=>(loop (σ:=ed) (ρ:=en) (λ(b,a,_)=>bif bu (b<((a.length:X):Z)) then((fY b).bind λk=>(Y (a.length)).bind λh=>(gZ k h a.length).bind λ_=>(oI a.length).map λ_=>(k,h)).bind λc=>((Y (0)).bind λi=>(fY b).bind λj=>(gZ i j a.length).bind λ_=>(oI a.length).map λ_=>(i,j)).bind λd=>Y (.inl (bK.wrap (b+((min ((a.take d.2).drop d.1).length (c.2-c.1):X):Z)),j8 a ((a.take d.2).drop d.1) c.1 c.2,())) else
 Y (.inr (a,()))) (((min f.length ((bJ e (0:Z)).length-0):X):Z),j8 (bJ e (0:Z)) f 0 (bJ e (0:Z)).length,())).bind λ(l,_)=>Y (l,())
def El:dz->bw ea:=λ(g,h,_)=>(loop (σ:=ed) (ρ:=dJ) (λ(e,b,_)=>bif bu (e<((g.length:X):Z)) then(bC (α:=en⊕dr) ((aj g e).bind λa=>bC (α:=(aj0×dP×bt)⊕(en⊕dr)) (bC (α:=(bA×aj0×dP×bt)) (bz ((a.1 !=((b.length:X):Z))==br) (bz (bu (a.2.1<=a.1)==br) (Y (bu (a.2.1>h),b,a,())) (Y (bp,b,a,()))) (Y (bp,b,a,()))) λ(o,m,l,_)=>bz o (Y (.inr (.inr (.inr (.inr ([],br,())))))) (Y (.inl (m,l,())))) λc=>match c with
 |.inl (i,f,_)=>((DJ ([e],bK.wrap (f.2.1-f.1),())).bind λ(k,_)=>(bh (i.length+k.length)).bind λ_=>Y (.inl ((i++k),())))
 |.inr d=>Y d) λc=>match c with
 |.inl (n,_)=>(Y (.inl (bK.wrap (e+(1:Z)),n,())))
 |.inr d=>Y d) else Y (.inr (.inl (b,())))) ((0:Z),[],())).bind λc=>match c with
 |.inl (j,_)=>(Y (j,(((j.length:X):Z)==h),()))
 |.inr d=>Y d
def En:(dP×Z×bt)->ajX:=λ(a,g,_)=>(bif bu ((((a.2.2.1).length:X):Z)<bK.wrap (a.2.1-a.1)) then Y (br,()) else((loop (σ:=es) (ρ:=ef) (λ(b,_)=>bif bu (b<(((a.2.2.1).length:X):Z)) then(bC (α:=bt⊕dQ) ((aj a.2.2.1 b).bind λc=>bC (α:=er) (bz (bu (b<bK.wrap (a.2.1-a.1))==bp) (Y ((c !=bK.wrap (a.1+b)),())) (Y (br,()))) λ(f,_)=>bz f (bz f (Y (.inr (.inr (.inr (br,()))))) (Y (.inl ()))) (bz (bu (b>=bK.wrap (a.2.1-a.1))==bp) (bz (bu (c<a.2.1)==br) (bz (bu (c>=g)==br) ((aj a.2.2.1 (bK.wrap (b-(1:Z)))).bind λh=>bz (bu (c<=h)) (Y (.inr (.inr (.inr (br,()))))) (Y (.inl ()))) (Y (.inr (.inr (.inr (br,())))))) (Y (.inr (.inr (.inr (br,())))))) (Y (.inl ())))) λd=>match d with
 |.inl _=>(Y (.inl (bK.wrap (b+(1:Z)),())))
 |.inr e=>Y e) else Y (.inr (.inl ()))) ((0:Z),())).bind λd=>match d with
 |.inl _=>(Y (bp,()))
 |.inr e=>Y e))
def Em:(bn dP×aj0×dP×bt)->ajX:=λ(f,g,a,_)=>((fY (bK.wrap (a.2.1-a.1))).bind λd=>(Y ((a.2.2.1).length)).bind λe=>(gZ d e (a.2.2.1).length).map λ_=>(d,e)).bind λb=>(bif (((((a.2.2.1).take b.2).drop b.1).length:X):Z)==(0:Z) then Y ((a.2.2.2.1==(-1:Z)),()) else(aj (((a.2.2.1).take b.2).drop b.1) (0:Z)).bind λm=>(aj g m).bind λn=>bif a.2.2.2.1 !=n then Y (br,()) else((loop (σ:=es) (ρ:=ef) (λ(c,_)=>bz (bu (c<(((((a.2.2.1).take b.2).drop b.1).length:X):Z))) ((aj (((a.2.2.1).take b.2).drop b.1) c).bind λk=>(aj f a.2.2.2.1).bind λl=>(u1 (l.2.2.1,k,())).bind λ(_,j,_)=>bz (!j) (Y (.inr (.inr (br,())))) (Y (.inl (bK.wrap (c+(1:Z)),())))) (Y (.inr (.inl ())))) ((0:Z),())).bind λh=>match h with
 |.inl _=>(Y (bp,()))
 |.inr i=>Y i))
def H7:(dP×ajU×bt)->ajX:=λ(a,b,_)=>b.bind λc=>(En (a,c,())).bind λ(aL,_)=>Y ((!aL),())
def HT:dp->ajY:=λ(b,c,_)=>(loop (σ:=es) (ρ:=eh) (λ(a,_)=>bz (bu (a<((b.length:X):Z))) ((aj b a).bind λg=>(H7 (g,c.1,())).bind λ(f,_)=>bz f (Y (.inr (.inr (a,())))) (Y (.inl (bK.wrap (a+(1:Z)),())))) (Y (.inr (.inl ())))) ((0:Z),())).bind λd=>match d with
 |.inl _=>(Y ((-1:Z),()))
 |.inr e=>Y e
def DD:dp->ajX:=λ(c,a,_)=>(HT (c,(a.1,()),())).bind λ(b,_)=>Y (bu (b>=(0:Z)),())
def H8:(dP×bw dF×ev×bt)->ajX:=λ(a,b,c,_)=>b.bind λe=>c.bind λf=>(Em (e,f,a,())).bind λ(d,_)=>Y ((!d),())
def HU:dk->ajY:=λ(c,b,_)=>(loop (σ:=es) (ρ:=eh) (λ(a,_)=>bz (bu (a<((c.length:X):Z))) ((aj c a).bind λg=>(H8 (g,b.1,b.2.1,())).bind λ(f,_)=>bz f (Y (.inr (.inr (a,())))) (Y (.inl (bK.wrap (a+(1:Z)),())))) (Y (.inr (.inl ())))) ((0:Z),())).bind λd=>match d with
 |.inl _=>(Y ((-1:Z),()))
 |.inr e=>Y e
def DE:dk->ajX:=λ(c,a,_)=>(HU (c,(a.1,a.2.1,()),())).bind λ(b,_)=>Y (bu (b>=(0:Z)),())
def xV:dn->ajY:=λ(c,d,_)=>(zS (c,())).bind λ(i,_)=>(bif i !=(0:Z) then Y (i,()) else((El (d,(((c.1).length:X):Z),())).bind λ(aL,p,_)=>bC (α:=en⊕es) (bz ((!p)==br) ((DD (d,(Y (((c.1).length:X):Z),()),())).bind λ(q,_)=>bz q (Y (.inr ((211:Z),()))) (Y (.inl (aL,())))) (Y (.inr ((211:Z),())))) λa=>match a with
 |.inl (h,_)=>((DE (d,(Y d,Y h,()),())).bind λ(r,_)=>bif r then Y ((211:Z),()) else((loop (σ:=ed) (ρ:=eh) (λ(e,l,_)=>bif bu (e<(((c.1).length:X):Z)) then((aj c.1 e).bind λj=>(loop (σ:=ed) (ρ:=dt) (λ(g,f,_)=>bif bu (g<((j.length:X):Z)) then(bC (α:=en⊕(ed⊕dt)) ((aj j g).bind λk=>bz (bu (k>e)) (Y (.inl (f,()))) ((aj f k).bind λs=>(aj d s).bind λt=>(u1 (t.2.2.1,e,())).bind λ(_,o,_)=>bz (!o) (Y (.inr (.inr (.inr (.inr (.inr ((211:Z),()))))))) (Y (.inl (f,()))))) λa=>match a with
 |.inl (m,_)=>(Y (.inl (bK.wrap (g+(1:Z)),m,())))
 |.inr b=>Y b) else Y (.inr (.inl (f,())))) ((0:Z),l,())).bind λa=>match a with
 |.inl (n,_)=>(Y (.inl (bK.wrap (e+(1:Z)),n,())))
 |.inr b=>Y b) else Y (.inr (.inl ()))) ((0:Z),h,())).bind λa=>match a with
 |.inl _=>(Y ((0:Z),()))
 |.inr b=>Y b))
 |.inr b=>Y b))
def Au:dz->ajY:=λ(b,e,_)=>(loop (σ:=es) (ρ:=eh) (λ(a,_)=>bif bu (a<((b.length:X):Z)) then(bC (α:=bt⊕dR) (bC (α:=er) ((aj b a).bind λg=>bz (bu (g.1<=e)==bp) ((aj b a).bind λh=>Y (bu (e<h.2.1),())) (Y (br,()))) λ(f,_)=>bz f (Y (.inr (.inr (.inr (a,()))))) (Y (.inl ()))) λc=>match c with
 |.inl _=>(Y (.inl (bK.wrap (a+(1:Z)),())))
 |.inr d=>Y d) else Y (.inr (.inl ()))) ((0:Z),())).bind λc=>match c with
 |.inl _=>(Y ((-1:Z),()))
 |.inr d=>Y d
def xO:dn->ajY:=λ(f,c,_)=>(vb (f,())).bind λ(o,_)=>(bif o !=(0:Z) then Y (o,()) else((loop (σ:=ep) (ρ:=dX) (λ(k,h,_)=>bif bu (h<((c.length:X):Z)) then(bC (α:=es⊕dG) (bC (α:=bt⊕(es⊕dG)) ((aj c h).bind λJ=>bz ((J.1 !=k)==br) ((aj c h).bind λK=>bz (bu (K.2.1<=k)==br) ((aj c h).bind λL=>bz (bu (L.2.1>(((f.1).length:X):Z))) (Y (.inr (.inr (.inr (.inr ((211:Z),())))))) (Y (.inl ()))) (Y (.inr (.inr (.inr (.inr ((211:Z),()))))))) (Y (.inr (.inr (.inr (.inr ((211:Z),()))))))) λa=>match a with
 |.inl _=>((aj c h).bind λM=>Y (.inl (M.2.1,())))
 |.inr b=>Y b) λa=>match a with
 |.inl (q,_)=>(Y (.inl (q,bK.wrap (h+(1:Z)),())))
 |.inr b=>Y b) else Y (.inr (.inl (k,())))) ((0:Z),(0:Z),())).bind λa=>match a with
 |.inl (r,_)=>(bif r !=(((f.1).length:X):Z) then Y ((211:Z),()) else((loop (σ:=es) (ρ:=eh) (λ(e,_)=>bif bu (e<((c.length:X):Z)) then(bC (α:=bt⊕dR) ((aj c e).bind λd=>(aj c e).bind λi=>(aj c e).bind λj=>bC (α:=bt⊕dK) ((Ad (d.2.2.1,())).bind λ(s,_)=>bif (!s)==br then bif bu ((((d.2.2.1).length:X):Z)<bK.wrap (i.2.1-j.1))==br then(aj d.2.2.1 (0:Z)).bind λx=>(aj c e).bind λy=>bif (x !=y.1)==br then(aj d.2.2.1 (bK.wrap (bK.wrap (i.2.1-j.1)-(1:Z)))).bind λz=>(aj c e).bind λA=>bif (z !=bK.wrap (A.2.1-(1:Z)))==br then(aj d.2.2.1 (bK.wrap ((((d.2.2.1).length:X):Z)-(1:Z)))).bind λB=>bif bu (B>=(((f.1).length:X):Z)) then Y (.inr (.inr (.inr (.inr ((211:Z),()))))) else
 Y (.inl ()) else Y (.inr (.inr (.inr (.inr ((211:Z),()))))) else Y (.inr (.inr (.inr (.inr ((211:Z),()))))) else Y (.inr (.inr (.inr (.inr ((211:Z),()))))) else Y (.inr (.inr (.inr (.inr ((211:Z),())))))) λa=>match a with
 |.inl _=>(bC (α:=es) (bz (bu ((((d.2.2.1).length:X):Z)>bK.wrap (i.2.1-j.1))) ((aj d.2.2.1 (bK.wrap (i.2.1-j.1))).bind λC=>(Au (c,C,())).bind λ(t,_)=>Y (t,())) (Y ((-1:Z),()))) λ(n,_)=>(aj c e).bind λD=>bif D.2.2.2.1 !=n then Y (.inr (.inr (.inr ((211:Z),())))) else((loop (σ:=es) (ρ:=dC) (λ(l,_)=>bz (bu (l<(((d.2.2.1).length:X):Z))) ((aj c n).bind λE=>(aj d.2.2.1 l).bind λF=>(sI (E.2.2.1,F,())).bind λ(u,_)=>bz (!u) (Y (.inr (.inr (.inr (.inr (.inr ((211:Z),()))))))) (Y (.inl (bK.wrap (l+(1:Z)),())))) (Y (.inr (.inl ())))) (bK.wrap (i.2.1-j.1),())).bind λa=>match a with
 |.inl _=>(Y (.inl ()))
 |.inr b=>Y b))
 |.inr b=>Y b) λa=>match a with
 |.inl _=>(Y (.inl (bK.wrap (e+(1:Z)),())))
 |.inr b=>Y b) else Y (.inr (.inl ()))) ((0:Z),())).bind λa=>match a with
 |.inl _=>((loop (σ:=es) (ρ:=eh) (λ(g,_)=>bif bu (g<(((f.1).length:X):Z)) then((loop (σ:=es) (ρ:=dK) (λ(m,_)=>(aj f.1 g).bind λG=>bif bu (m<((G.length:X):Z)) then(bC (α:=bt⊕dx) ((aj f.1 g).bind λH=>(aj H m).bind λp=>bz (bu (p>g)==bp) ((Au (c,g,())).bind λ(v,_)=>(aj c v).bind λI=>(sI (I.2.2.1,p,())).bind λ(w,_)=>bz (!w) (Y (.inr (.inr (.inr (.inr (.inr ((211:Z),()))))))) (Y (.inl ()))) (Y (.inl ()))) λa=>match a with
 |.inl _=>(Y (.inl (bK.wrap (m+(1:Z)),())))
 |.inr b=>Y b) else Y (.inr (.inl ()))) ((0:Z),())).bind λa=>match a with
 |.inl _=>(Y (.inl (bK.wrap (g+(1:Z)),())))
 |.inr b=>Y b) else Y (.inr (.inl ()))) ((0:Z),())).bind λa=>match a with
 |.inl _=>(Y ((0:Z),()))
 |.inr b=>Y b)
 |.inr b=>Y b))
 |.inr b=>Y b))
def DP:ec->ajX:=λ(b,c,_)=>(bif ((b.length:X):Z)!=c then Y (br,()) else((fj c c).bind λk=>(loop (σ:=eb) (ρ:=ef) (λ(a,g,_)=>bif bu (a<c) then(bC (α:=ei⊕dE) (bC (α:=ei⊕(ei⊕dE)) ((aj b a).bind λo=>bz (bu (o<(0:Z))==br) ((aj b a).bind λp=>bz (bu (p>=c)==br) ((aj b a).bind λq=>(bf g.length q).bind λj=>(a8 g j λi=>Y i).bind λm=>bz m (Y (.inr (.inr (.inr (.inr (br,())))))) (Y (.inl (g,())))) (Y (.inr (.inr (.inr (.inr (br,()))))))) (Y (.inr (.inr (.inr (.inr (br,()))))))) λd=>match d with
 |.inl (f,_)=>((aj b a).bind λn=>(bf f.length n).bind λh=>(a8 f h λ_=>Y (f.set h bp)).bind λr=>Y (.inl (r,())))
 |.inr e=>Y e) λd=>match d with
 |.inl (l,_)=>(Y (.inl (bK.wrap (a+(1:Z)),l,())))
 |.inr e=>Y e) else Y (.inr (.inl ()))) ((0:Z),bJ k br,())).bind λd=>match d with
 |.inl _=>(Y (bp,()))
 |.inr e=>Y e))
def q2:dI->bw dO:=λ(a,b,_)=>(vb (a,())).bind λ(c,_)=>(bz (c !=(0:Z)) (Y (([],()),c,())) (bz (((b.length:X):Z)!=(((a.1).length:X):Z)) (Y (([],()),(2:Z),())) ((DP (b,(((a.1).length:X):Z),())).bind λ(aL,_)=>bz (!aL) (Y (([],()),(90:Z),())) ((Eb (a,b,())).bind λ(d,e,_)=>Y (d,e,())))))
section
open Go
def BX (c:aj0->ev) (a:aj0):bw bA:=bif b3 a.length 1000000 then(c a).bind λb=>bif b3 b.length 1000000 then Y (bu ((akO b).length<a.length)) else bq else bq
end
def Df:dO->ajX:=λ(b,a,_)=>(bz (bu (a>=(0:Z))==bp) (Y (bu (a<(((b.1).length:X):Z)),())) (Y (br,())))
def xC:es->ajY:=λ(a,_)=>bC (α:=ep) (bz (bu (a>=(65536:Z))) ((eJ cb a (16:Z)).bind λg=>Y (g,(16:Z),())) (Y (a,(0:Z),()))) λ(b,c,_)=>bC (α:=ep) (bz (bu (b>=(256:Z))) ((eJ cb b (8:Z)).bind λh=>Y (h,bK.wrap (c+(8:Z)),())) (Y (b,c,()))) λ(f,e,_)=>(qn Fa (anH.wrap f)).bind λd=>Y (bK.wrap (e+bK.wrap d),())
def ND:es->ajY:=λ(a,_)=>bC (α:=ep) (bz (bu (a>=(4294967296:Z))) ((eJ bE a (32:Z)).bind λi=>Y (i,(32:Z),())) (Y (a,(0:Z),()))) λ(b,d,_)=>bC (α:=ep) (bz (bu (b>=(65536:Z))) ((eJ bE b (16:Z)).bind λj=>Y (j,bK.wrap (d+(16:Z)),())) (Y (b,d,()))) λ(c,e,_)=>bC (α:=ep) (bz (bu (c>=(256:Z))) ((eJ bE c (8:Z)).bind λk=>Y (k,bK.wrap (e+(8:Z)),())) (Y (c,e,()))) λ(h,g,_)=>(qn Fa (anH.wrap h)).bind λf=>Y (bK.wrap (g+bK.wrap f),())
def Du:es->ajY:=λ(b,_)=>(ND (b,())).bind λ(a,_)=>Y (a,())
def DK:(aj0×Z×Z×bt)->bw en:=λ(k,f,j,_)=>(loop (σ:=ed) (ρ:=en) (λ(d,g,_)=>bif bu (d<j) then(loop (σ:=ed) (ρ:=en) (λ(a,c,_)=>bC (α:=en⊕(ed⊕en)) (bz (bu (a>f)==bp) ((bf c.length a).bind λu=>(a8 c u λq=>Y q).bind λy=>(bf c.length (bK.wrap (a-(1:Z)))).bind λr=>(a8 c r λn=>Y n).bind λz=>(uR (y,z,())).bind λ(x,_)=>bz x (Y (.inl (c,()))) (Y (.inr (.inr (c,()))))) (Y (.inr (.inr (c,()))))) λv=>match v with
 |.inl (b,_)=>((bf b.length (bK.wrap (a-(1:Z)))).bind λs=>(a8 b s λo=>Y o).bind λA=>(bf b.length a).bind λt=>(a8 b t λp=>Y p).bind λB=>(bf b.length a).bind λh=>(a8 b h λ_=>Y (b.set h A)).bind λe=>(bf e.length (bK.wrap (a-(1:Z)))).bind λi=>(a8 e i λ_=>Y (e.set i B)).bind λC=>Y (.inl (bK.wrap (a-(1:Z)),C,())))
 |.inr w=>Y w) (d,g,())).bind λ(l,_)=>Y (.inl (bK.wrap (d+(1:Z)),l,())) else Y (.inr (g,()))) (bK.wrap (f+(1:Z)),k,())).bind λ(m,_)=>Y (m,())
def DM:(aj0×Z×Z×Z×bt)->bw en:=λ(e,c,d,g,_)=>(loop (σ:=(Z×Z×Z×bA×bA×aj0×bt)) (ρ:=en) (λ(a,b,_,_,_,f,_)=>bz (bu (bK.wrap (b-a)<=(12:Z))) ((DK (f,a,b,())).bind λ(h,_)=>Y (.inr (h,()))) bq) (c,d,g,bp,bp,e,())).bind Y
def z9:en->bw en:=λ(a,_)=>(Du (bE.wrap ((a.length:X):Z),())).bind λ(c,_)=>(DM (a,(0:Z),((a.length:X):Z),c,())).bind λ(b,_)=>Y (b,())
def De:aj0×bt->ajX:=λa=>(BX (λc=>(z9 (c,())).map λd=>d.1) a.1).map λb=>(b,())
def HI:(Z×bw dY×bt)->ajX:=λ(b,a,_)=>a.bind λc=>(Df (c,b,())).bind λ(aL,_)=>Y ((!aL),())
def HV:dw->ajY:=λ(b,c,_)=>(loop (σ:=es) (ρ:=eh) (λ(a,_)=>bz (bu (a<((b.length:X):Z))) ((aj b a).bind λg=>(HI (g,c.1,())).bind λ(f,_)=>bz f (Y (.inr (.inr (a,())))) (Y (.inl (bK.wrap (a+(1:Z)),())))) (Y (.inr (.inl ())))) ((0:Z),())).bind λd=>match d with
 |.inl _=>(Y ((-1:Z),()))
 |.inr e=>Y e
def DG:dw->ajX:=λ(c,a,_)=>(HV (c,(a.1,()),())).bind λ(b,_)=>Y (bu (b>=(0:Z)),())
def Da:dI->ajY:=λ(a,b,_)=>(zS (a,())).bind λ(c,_)=>(bz (c !=(0:Z)) (Y (c,())) (bz (((b.length:X):Z)!=(((a.1).length:X):Z)) (Y ((2:Z),())) ((DG (b,(Y a,()),())).bind λ(aL,_)=>bz (aL==br) ((De (b,())).bind λ(d,_)=>bz d (Y ((90:Z),())) (Y ((0:Z),()))) (Y ((90:Z),())))))
def zU:es->bw dV:=λ(a,_)=>(fj a a).bind λe=>(loop (σ:=dT) (ρ:=dV) (λ(c,b,_)=>bz (bu (c<((((bJ e []):ey).length:X):Z))) ((fj a a).bind λf=>(bf b.length c).bind λd=>(a8 b d λ_=>Y (b.set d (bJ f br))).bind λh=>Y (.inl (bK.wrap (c+(1:Z)),h,()))) (Y (.inr (b,())))) ((0:Z),bJ e [],())).bind λ(g,_)=>Y (g,())
def zX:(ey×Z×Z×bt)->bw dV:=λ(a,d,e,_)=>(bz (d !=e) ((bf a.length d).bind λb=>(bf a.length e).bind λc=>((a8 a b λm=>Y m).bind λn=>bf n.length e).bind λi=>(a8 a b λg=>(a8 g i λ_=>Y (g.set i bp)).map λo=>a.set b o).bind λf=>((a8 f c λk=>Y k).bind λl=>bf l.length d).bind λj=>(a8 f c λh=>(a8 h j λ_=>Y (h.set j bp)).map λp=>f.set c p).bind λq=>Y (q,())) (Y (a,())))
def Db:(ey×Z×bt)->bw en:=λ(f,g,_)=>(aj f g).bind λc=>(loop (σ:=ed) (ρ:=en) (λ(a,b,_)=>bz (bu (a<((c.length:X):Z))) (bC (α:=en) ((aj c a).bind λh=>bz h ((bh (b.length+([a]).length)).bind λ_=>Y ((b++[a]),())) (Y (b,()))) λ(d,_)=>Y (.inl (bK.wrap (a+(1:Z)),d,()))) (Y (.inr (b,())))) ((0:Z),[],())).bind λ(e,_)=>Y (e,())
def zW:dV->bw dS:=λ(b,_)=>(fj ((b.length:X):Z) ((b.length:X):Z)).bind λg=>(loop (σ:=du) (ρ:=dv) (λ(c,e,a,_)=>bz (bu (c<((b.length:X):Z))) ((Db (b,c,())).bind λ(h,_)=>(bf (a.1).length c).bind λd=>((a8 a.1 d λ_=>Y ((a.1).set d h)).map λi=>(i,a.2)).bind λj=>Y (.inl (bK.wrap (c+(1:Z)),e,j,()))) (Y (.inr (e,a,())))) ((0:Z),([],()),(bJ g [],()),())).bind λ(_,f,_)=>Y (f,())
def Dd:dI->bw dS:=λ(k,a,_)=>(zU (((a.length:X):Z),())).bind λ(o,_)=>(loop (σ:=dy) (ρ:=dA) (λ(b,i,j,_)=>bif bu (b<((a.length:X):Z)) then(aj a b).bind λv=>((Y (0)).bind λg=>(fY b).bind λh=>(gZ g h a.length).map λ_=>(g,h)).bind λc=>(loop (σ:=dy) (ρ:=dA) (λ(d,e,f,_)=>bif bu (d<((((a.take c.2).drop c.1).length:X):Z)) then bC (α:=dA) ((aj ((a.take c.2).drop c.1) d).bind λu=>(xp (k,v,u,())).bind λ(m,_)=>bz m ((zX (f,b,d,())).bind λ(l,_)=>Y (e,l,())) (Y (e,f,()))) λ(p,q,_)=>
 Y (.inl (bK.wrap (d+(1:Z)),p,q,())) else Y (.inr (e,f,()))) ((0:Z),i,j,())).bind λ(r,s,_)=>Y (.inl (bK.wrap (b+(1:Z)),r,s,())) else Y (.inr (i,j,()))) ((0:Z),([],()),o,())).bind λ(_,t,_)=>(zW (t,())).bind λ(n,_)=>Y (n,())
def zV:dI->bw dO:=λ(a,b,_)=>(Da (a,b,())).bind λ(c,_)=>(bz (c !=(0:Z)) (Y (([],()),c,())) ((Dd (a,b,())).bind λ(aL,_)=>Y (aL,(0:Z),())))
def uQ:ep->ajY:=λ(a,b,_)=>(su (a,())).bind λ(c,_)=>(su (b,())).bind λ(aL,_)=>(bz c (bz aL (Y ((0:Z),())) (Y ((-1:Z),()))) (bz aL (Y ((1:Z),())) (bz (bu (a<b)) (Y ((-1:Z),())) (bz (bu (a>b)) (Y ((1:Z),())) (Y ((0:Z),()))))))
def CZ:en->ajY:=λ(b,_)=>(loop (σ:=es) (ρ:=eh) (λ(a,_)=>bz (bu (a<((b.length:X):Z))) ((aj b a).bind λc=>bz (c !=(0:Z)) (Y (.inr (.inr (c,())))) (Y (.inl (bK.wrap (a+(1:Z)),())))) (Y (.inr (.inl ())))) ((0:Z),())).bind λd=>match d with
 |.inl _=>(Y ((0:Z),()))
 |.inr e=>Y e
abbrev bg:Type:=aj0
abbrev he:Type:=(bg×bt)
abbrev eG:Type:=(bA×he)
abbrev cH:Type:=es
abbrev eP:Type:=(bA×(eG×cH))
abbrev G0:Type:=(bg×(bg×he))
abbrev mY:Type:=(bn eP)
abbrev si:Type:=(Z×(Z×(mY×bt)))
abbrev k9:Type:=(bn (Z×(Z×cH)))
abbrev c0:Type:=(Z×(Z×G0))
abbrev gd:Type:=er
abbrev qP:Type:=(Z×((bn bg×bt)×(bn (bw (bn (Z×eP)×X))×bt)))
abbrev iI:Type:=(bn (Z×(Z×(bg×cH))))
abbrev gg:Type:=(eP×bt)
abbrev gE:Type:=(eG×bt)
abbrev jQ:Type:=(eP×eP×bt)
abbrev iJ:Type:=(Z×bg×bt)
abbrev gp:Type:=ajW
abbrev lY:Type:=(bt⊕gd)
abbrev CC:Type:=(Z×si×si×bt)
abbrev jR:Type:=(k9×bt)
abbrev w2:Type:=(si×si×bt)
abbrev UB:Type:=(k9×Z×Z×Z×bt×bt)
abbrev oe:Type:=(Z×k9×bt)
abbrev kM:Type:=(bg×bg×bt)
abbrev k8:Type:=(eG×eG×bt)
abbrev nw:Type:=(bt⊕cH)
abbrev ny:Type:=(bg×Z×bt)
abbrev mZ:Type:=ep
abbrev Ma:Type:=(si×Z×bt)
abbrev kr:Type:=(iI×bn gp×bt)
abbrev zt:Type:=(Z×Z×k9×bt)
abbrev w3:Type:=(bA×(eG×(Z×gd)))
abbrev pP:Type:=(Z×Z×bg×bt)
abbrev pQ:Type:=(eG×Z×bt)
abbrev m3:Type:=(c0×bt)
def mA:he->bw he:=λ(c,_)=>(loop (σ:=cH) (ρ:=cH) (λ(a,_)=>bC (α:=bt⊕(cH⊕cH)) (bz (bu (a>0)==bp) ((aj c (au (a-1))).bind λj=>bz (j==0) (Y (.inl ())) (Y (.inr (.inr (a,()))))) (Y (.inr (.inr (a,()))))) λh=>match h with
 |.inl _=>(Y (.inl (au (a-1),())))
 |.inr i=>Y i) (ak c,())).bind λ(f,_)=>(loop (σ:=iJ) (ρ:=he) (λ(b,d,_)=>bz (bu (b<f)) ((aj c b).bind λe=>(bh (d.length+([e]).length)).bind λ_=>Y (.inl (aH b,(d++[e]),()))) (Y (.inr (d,())))) (0,[],())).bind λ(g,_)=>Y (g,())
def l5:(bA×bg×bt)->bw gE:=λ(c,b,_)=>(mA (b,())).bind λ(a,_)=>(bz (c==bp) (Y ((bu (ak a>0),(a,())),())) (Y ((br,(a,())),())))
def sJ:cH->bw gE:=λ(a,_)=>bC (α:=(Z×eG×bt)) (bz (bu (a<0)) (Y (aY (aY (au (0-aH a))+1),(br,([],())),())) (Y (aY a,(br,([],())),()))) λ(b,_,_)=>(eJ bE b 32).bind λd=>(l5 (bu (a<0),[eS b,eS d],())).bind λ(c,_)=>Y (c,())
def pZ:gE->bw gE:=λ(a,_)=>(l5 (a.1,a.2.1,())).bind λ(b,_)=>Y (b,())
def sL:bt->bw gg:=λ_=>Y ((bp,((br,([],())),((0:Z),()))),())
def xD:cH->bw cH:=λ(a,_)=>(bz (a==0) (Y (32,())) ((eJ cb (eS (eZ cb a (eS (0-a))*125613361)) 27).bind λb=>(aj pT b).bind λc=>Y (au c,())))
def qZ:gE->bw cH:=λ(c,_)=>(mA (c.2.1,())).bind λ(b,_)=>(loop (σ:=cH) (ρ:=nw) (λ(a,_)=>bz (bu (a<ak b)) ((aj b a).bind λg=>bz (g !=0) ((aj b a).bind λh=>(xD (h,())).bind λ(f,_)=>Y (.inr (.inr (au (au (32*a)+f),())))) (Y (.inl (aH a,())))) (Y (.inr (.inl ())))) (0,())).bind λd=>match d with
 |.inl _=>(Y (0,()))
 |.inr e=>Y e
def qY:gE->bw gE:=λ(a,_)=>(l5 (br,a.2.1,())).bind λ(b,_)=>Y (b,())
def xJ:ny->bw he:=λ(f,g,_)=>(kB bK g 32).bind λi=>(fj i i).bind λj=>(loop (σ:=pP) (ρ:=iJ) (λ(a,b,c,_)=>bz (bu (b<ak f)) ((aj f b).bind λl=>(iR g 32).bind λm=>(h4 bE (aY l) m).bind λd=>(bh (c.length+([eS (gr bE a d)]).length)).bind λ_=>(eJ bE (gr bE a d) 32).bind λk=>Y (.inl (k,aH b,(c++[eS (gr bE a d)]),()))) (Y (.inr (a,c,())))) (0,0,bJ j (0:Z),())).bind λ(e,h,_)=>(bh (h.length+([eS e]).length)).bind λ_=>Y ((h++[eS e]),())
def xK:ny->bw (bg×bA×bt):=λ(b,d,_)=>(loop (σ:=eo) (ρ:=gd) (λ(e,c,_)=>bC (α:=bt⊕(eo⊕gd)) ((kB bK d 32).bind λw=>bz (bu (c<w)==bp) (bz (bu (c<ak b)) (Y (.inl ())) (Y (.inr (.inr (e,()))))) (Y (.inr (.inr (e,()))))) λt=>match t with
 |.inl _=>(bC (α:=gd) (bz (e==br) ((aj b c).bind λx=>Y ((x !=0),())) (Y (bp,()))) λ(m,_)=>Y (.inl (m,aH c,())))
 |.inr u=>Y u) (br,0,())).bind λ(n,_)=>(iR d 32).bind λj=>(kB bK d 32).bind λy=>(loop (σ:=(bA×Z×bg×bt)) (ρ:=(bA×bg×bt)) (λ(f,a,g,_)=>bif bu (a<ak b) then bC (α:=(bA×bg×bt)) ((aj b a).bind λk=>bC (α:=iJ) (bz (bu (aH a<ak b)) ((aj b (aH a)).bind λz=>(h4 bE (aY z) 32).bind λA=>Y (gr bE (aY k) A,g,())) (Y (aY k,g,()))) λ(v,h,_)=>bC (α:=(bA×bg×bt)) ((kB bK d 32).bind λB=>bz ((a==B)==bp) ((aj b a).bind λC=>(h4 cb 1 j).bind λD=>bz (eZ cb C (eS (D-1))!=0) (Y (bp,h,())) (Y (f,h,()))) (Y (f,h,()))) λ(o,i,_)=>(eJ bE v j).bind λl=>(bh (i.length+([eS l]).length)).bind λ_=>Y (o,(i++[eS l]),())) λ(p,r,_)=>Y (.inl (p,aH a,r,())) else
 Y (.inr (f,g,()))) (n,y,[],())).bind λ(q,s,_)=>Y (s,q,())
def Af:gE->bw gE:=λ(a,_)=>(l5 ((!a.1),a.2.1,())).bind λ(b,_)=>Y (b,())
def DW:kM->bw he:=λ(b,c,_)=>(loop (σ:=pP) (ρ:=iJ) (λ(e,a,f,_)=>bz (bu (a<(if(ak c)>ak b then ak c else ak b))) (bC (α:=iJ) (bC (α:=iJ) (bz (bu (a<ak b)) ((aj b a).bind λo=>Y (aY (e+aY o),f,())) (Y (e,f,()))) λ(h,k,_)=>bC (α:=iJ) (bz (bu (a<ak c)) ((aj c a).bind λp=>Y (aY (h+aY p),k,())) (Y (h,k,()))) λ(d,i,_)=>(bh (i.length+([eS d]).length)).bind λ_=>(eJ bE d 32).bind λn=>Y (n,(i++[eS d]),())) λ(l,m,_)=>Y (.inl (l,aH a,m,()))) (Y (.inr (e,f,())))) (0,0,[],())).bind λ(g,j,_)=>(bh (j.length+([eS g]).length)).bind λ_=>Y ((j++[eS g]),())
def Ag:kM->bw cH:=λ(b,c,_)=>(bif ak b !=ak c then bz (bu (ak b<ak c)) (Y ((-1:Z),())) (Y (1,())) else((loop (σ:=cH) (ρ:=nw) (λ(a,_)=>bz (bu (a>=0)) ((aj b a).bind λf=>(aj c a).bind λg=>bz (f !=g) ((aj b a).bind λh=>(aj c a).bind λi=>bz (bu (h<i)) (Y (.inr (.inr ((-1:Z),())))) (Y (.inr (.inr (1,()))))) (Y (.inl (au (a-1),())))) (Y (.inr (.inl ())))) (au (ak b-1),())).bind λd=>match d with
 |.inl _=>(Y (0,()))
 |.inr e=>Y e))
def Ah:kM->bw he:=λ(d,e,_)=>(loop (σ:=pP) (ρ:=he) (λ(f,a,b,_)=>bz (bu (a<ak d)) (bC (α:=iJ) ((aj d a).bind λh=>bC (α:=iJ) (bz (bu (a<ak e)) ((aj e a).bind λm=>Y (aY (aY (aY h-f)-aY m),b,())) (Y (aY (aY h-f),b,()))) λ(c,g,_)=>(bh (g.length+([eS c]).length)).bind λ_=>(eJ bE c 63).bind λl=>Y (l,(g++[eS c]),())) λ(i,j,_)=>Y (.inl (i,aH a,j,()))) (Y (.inr (b,())))) (0,0,[],())).bind λ(k,_)=>Y (k,())
def pY:k8->bw gE:=λ(a,c,_)=>(mA (a.2.1,())).bind λ(b,_)=>(mA (c.2.1,())).bind λ(aL,_)=>(bz (a.1==c.1) ((DW (b,aL,())).bind λ(f,_)=>(l5 (a.1,f,())).bind λ(g,_)=>Y (g,())) ((Ag (b,aL,())).bind λ(h,_)=>bz (bu (h>=0)) ((Ah (b,aL,())).bind λ(i,_)=>(l5 (a.1,i,())).bind λ(j,_)=>Y (j,())) ((Ah (aL,b,())).bind λ(d,_)=>(l5 (c.1,d,())).bind λ(e,_)=>Y (e,()))))
def xI:k8->bw gE:=λ(a,b,_)=>(Af (b,())).bind λ(c,_)=>(pY (a,c,())).bind λ(aL,_)=>Y (aL,())
def m5:pQ->bw gE:=λ(f,b,_)=>(pZ (f,())).bind λ(a,_)=>(bz (bu (b>=0)) ((xJ (a.2.1,b,())).bind λ(aL,_)=>(l5 (a.1,aL,())).bind λ(j,_)=>Y (j,())) ((xK (a.2.1,au (0-b),())).bind λ(k,l,_)=>(l5 (a.1,k,())).bind λ(d,_)=>bC (α:=k8) (bC (α:=(bA×eG×eG×bt)) (bz (a.1==bp) (Y (l,(br,([],())),d,())) (Y (br,(br,([],())),d,()))) λ(m,e,c,_)=>bz m ((sJ (1,())).bind λ(h,_)=>(xI (c,h,())).bind λ(i,_)=>Y (e,i,())) (Y (e,c,()))) λ(_,g,_)=>Y (g,())))
def xM:pQ->bw gE:=λ(d,f,_)=>(loop (σ:=(Z×eG×eG×bt)) (ρ:=(Z×eG×eG×bt)) (λ(a,b,c,_)=>bz (bu (a>1048576)) ((m5 (b,(-1048576:Z),())).bind λ(i,_)=>Y (.inl (au (a-1048576),i,c,()))) (Y (.inr (a,b,c,())))) (f,d,(br,([],())),())).bind λ(g,e,_,_)=>(m5 (e,au (0-g),())).bind λ(h,_)=>Y (h,())
def u7:gE->bw cH:=λ(b,_)=>(mA (b.2.1,())).bind λ(a,_)=>(bz (ak a==0) (Y (0,())) ((aj a (au (ak a-1))).bind λc=>(xC (c,())).bind λ(aL,_)=>Y (au (au (32*au (ak a-1))+aL),())))
def ov:pQ->bw gg:=λ(e,a,_)=>(pZ (e,())).bind λ(c,_)=>(bif ak c.2.1==0 then Y ((br,((br,([],())),((0:Z),()))),()) else bif bu (a>65536) then(sL ()).bind λ(aL,_)=>Y (aL,()) else((qZ (c,())).bind λ(b,_)=>(qY (c,())).bind λ(k,_)=>(xM (k,b,())).bind λ(d,_)=>bC (α:=(eP×eG×bt)⊕gg) (bC (α:=(bA×eP×eG×bt)) (bz (bu (au (a+b)<(-65536:Z))==br) ((u7 (d,())).bind λ(l,_)=>Y (bu (au (au (a+b)+l)>65536),(br,((br,([],())),((0:Z),()))),d,())) (Y (bp,(br,((br,([],())),((0:Z),()))),d,()))) λ(n,m,f,_)=>bz n ((sL ()).bind λ(j,_)=>Y (.inr (j,()))) (Y (.inl (m,f,())))) λh=>match h with
 |.inl (_,g,_)=>(Y ((br,((e.1,g.2),(au (a+b),()))),()))
 |.inr i=>Y i))
def sM:cH->bw gg:=λ(a,_)=>(sJ (a,())).bind λ(b,_)=>(ov (b,0,())).bind λ(c,_)=>Y (c,())
def ld:gg->bw gg:=λ(a,_)=>(bz a.1 ((sL ()).bind λ(b,_)=>Y (b,())) ((ov (a.2.1,a.2.2.1,())).bind λ(c,_)=>Y (c,())))
def l4:gE->bw cH:=λ(b,_)=>(pZ (b,())).bind λ(a,_)=>(bz (ak a.2.1==0) (Y (0,())) (bz a.1 (Y ((-1:Z),())) (Y (1,()))))
def q0:eo->bw cH:=λ(b,a,_)=>(bz b (Y (gr bE a 9223372036854775808,())) (Y (a,())))
def Ak:eo->bw cH:=λ(a,b,_)=>bC (α:=bt⊕cH) (bC (α:=gd) (bz ((b==3)==br) (bz ((b==1)==bp) (bz ((!a)==br) (bz ((b==2)==bp) (Y (a,())) (Y (br,()))) (Y (bp,()))) (bz ((b==2)==bp) (Y (a,())) (Y (br,())))) (Y (bp,()))) λ(f,_)=>bz f ((q0 (a,9218868437227405311,())).bind λ(aL,_)=>Y (.inr (aL,()))) (Y (.inl ()))) λc=>match c with
 |.inl _=>((q0 (a,9218868437227405312,())).bind λ(e,_)=>Y (e,()))
 |.inr d=>Y d
def Ae:pQ->bw gd:=λ(a,b,_)=>(mA (a.2.1,())).bind λ(c,_)=>(xK (c,b,())).bind λ(_,d,_)=>Y (d,())
def D3:(bA×Z×bA×Z×bt)->bw gd:=λ(c,b,d,a,_)=>(bz (a==1) (Y (c,())) (bz (a==2) (Y ((!c),())) (bz (a==3) (Y (br,())) (bz (bu (b>0)==br) (bz ((b==0)==bp) (Y (d,())) (Y (br,()))) (Y (bp,()))))))
def D0:(bA×eG×Z×bA×Z×bt)->bw gE:=λ(q,b,a,h,p,_)=>(xM (b,a,())).bind λ(l,_)=>(Ae (b,a,())).bind λ(D,_)=>bC (α:=k8⊕gE) (bC (α:=(bA×eG×eG×bt)) (bz ((!D)==bp) (Y ((!h),(br,([],())),l,())) (Y (br,(br,([],())),l,()))) λ(F,G,i,_)=>bz F (Y (.inr (i,()))) (Y (.inl (G,i,())))) λs=>match s with
 |.inl (g,f,_)=>(bC (α:=(Z×eG×eG×bt)) (bz (bu (a>0)) ((xM (b,au (a-1),())).bind λ(k,_)=>bC (α:=(bA×eG×eG×bt)) ((qZ (k,())).bind λ(v,_)=>bz ((v==0)==bp) ((l4 (k,())).bind λ(w,_)=>Y ((w !=0),g,f,())) (Y (br,g,f,()))) λ(E,e,c,_)=>bz E (bz (h==br) ((Ae (b,au (a-1),())).bind λ(x,_)=>bz x (Y (1,e,c,())) (Y (0,e,c,()))) (Y (1,e,c,()))) (Y ((-1:Z),e,c,()))) (Y ((-1:Z),g,f,()))) λ(o,m,d,_)=>bC (α:=(bA×eG×eG×bt)) ((l4 (d,())).bind λ(y,_)=>bz ((y !=0)==bp) ((qZ (d,())).bind λ(z,_)=>Y ((z==0),m,d,())) (Y (br,m,d,()))) λ(r,n,j,_)=>bC (α:=k8) ((D3 (q,o,r,p,())).bind λ(A,_)=>
  bz A ((sJ (1,())).bind λ(B,_)=>(pY (j,B,())).bind λ(C,_)=>Y (n,C,())) (Y (n,j,()))) λ(_,t,_)=>Y (t,()))
 |.inr u=>Y u
def DU:gE->bw ej:=λ(f,_)=>(pZ (f,())).bind λ(d,_)=>(bz (bu (ak d.2.1>2)) (Y (0,br,())) ((loop (σ:=(Z×Z×eG×bt)) (ρ:=(Z×eG×bt)) (λ(e,b,a,_)=>bz (bu (b<ak a.2.1)) ((aj a.2.1 b).bind λh=>(h4 bE (aY h) (au (32*b))).bind λi=>Y (.inl (gr bE e i,aH b,a,()))) (Y (.inr (e,a,())))) (0,0,d,())).bind λ(c,g,_)=>bz g.1 (bz (bu (c>9223372036854775808)) (Y (0,br,())) (Y (au (au (0-au (aY (c-1)))-1),bp,()))) (bz (bu (c>9223372036854775807)) (Y (0,br,())) (Y (au c,bp,())))))
def Al:(bA×eG×Z×bA×Z×bt)->bw cH:=λ(c,e,a,i,f,_)=>(u7 (e,())).bind λ(b,_)=>(bif bu (au (au (a+b)-1)>=1024) then(Ak (c,f,())).bind λ(p,_)=>Y (p,()) else(bC (α:=gE) (bz (bu ((if(-1074:Z)>au (au (au (a+b)-1)-52) then(-1074:Z) else au (au (au (a+b)-1)-52))>=a)) ((D0 (c,e,au ((if(-1074:Z)>au (au (au (a+b)-1)-52) then(-1074:Z) else au (au (au (a+b)-1)-52))-a),i,f,())).bind λ(q,_)=>Y (q,())) ((m5 (e,au (a-(if(-1074:Z)>au (au (au (a+b)-1)-52) then(-1074:Z) else au (au (au (a+b)-1)-52))),())).bind λ(r,_)=>Y (r,()))) λ(j,_)=>(DU (j,())).bind λ(g,_,_)=>bC (α:=mZ) (bif g==9007199254740992 then Y (aH (if(-1074:Z)>au (au (au (a+b)-1)-52) then(-1074:Z) else au (au (au (a+b)-1)-52)),4503599627370496,()) else
 Y ((if(-1074:Z)>au (au (au (a+b)-1)-52) then(-1074:Z) else au (au (au (a+b)-1)-52)),g,())) λ(h,d,_)=>bC (α:=bt⊕cH) (bC (α:=gd) (bz (bu (d>=4503599627370496)==bp) (Y (bu (au (h+53)>1024),())) (Y (br,()))) λ(s,_)=>bz s ((Ak (c,f,())).bind λ(m,_)=>Y (.inr (m,()))) (bz (bu (d>=4503599627370496)) ((h4 bE (aY (au (h+1075))) 52).bind λt=>(q0 (c,gr bE t (aY (au (d-4503599627370496))),())).bind λ(n,_)=>Y (.inr (n,()))) (Y (.inl ())))) λk=>match k with
 |.inl _=>((q0 (c,aY d,())).bind λ(o,_)=>Y (o,()))
 |.inr l=>Y l))
def xN:(eP×Z×bt)->bw cH:=λ(b,c,_)=>(ld (b,())).bind λ(a,_)=>(bz a.1 (Y (9221120237041090560,())) ((l4 (a.2.1,())).bind λ(aL,_)=>bz (aL==0) (Y (0,())) ((qY (a.2.1,())).bind λ(d,_)=>(Al (a.2.1.1,d,a.2.2.1,br,c,())).bind λ(e,_)=>Y (e,()))))
def D4:mZ->bw cH:=λ(b,a,_)=>(sM (b,())).bind λ(c,_)=>(xN (c,a,())).bind λ(aL,_)=>Y (aL,())
def xo:cH->bw mZ:=λ(a,_)=>(eJ bE a 52).bind λb=>Y (au (eZ bE b 2047),eZ bE a 4503599627370495,())
def ou:cH->bw gd:=λ(a,_)=>(xo (a,())).bind λ(b,_,_)=>Y ((b !=2047),())
def iu:he->bw he:=λ(b,_)=>(loop (σ:=cH) (ρ:=cH) (λ(a,_)=>bC (α:=bt⊕(cH⊕cH)) (bz (bu (a>0)==bp) ((aj b (au (a-1))).bind λi=>bz (i==0) (Y (.inl ())) (Y (.inr (.inr (a,()))))) (Y (.inr (.inr (a,()))))) λg=>match g with
 |.inl _=>(Y (.inl (au (a-1),())))
 |.inr h=>Y h) (ak b,())).bind λ(f,_)=>((Y (0)).bind λc=>(fY f).bind λd=>(gZ c d b.length).map λ_=>(c,d)).bind λe=>Y (((b.take e.2).drop e.1),())
def l3:(bA×bg×bt)->bw gE:=λ(c,b,_)=>(iu (b,())).bind λ(a,_)=>(bz (ak a==0) (Y ((br,(([]:bg),())),())) (Y ((c,(a,())),())))
def uW:cH->bw gE:=λ(a,_)=>bC (α:=(Z×eG×bt)) (bz (bu (a<0)) (Y (aY (0-aY a),(br,([],())),())) (Y (aY a,(br,([],())),()))) λ(b,_,_)=>(eJ bE b 32).bind λd=>(l3 (bu (a<0),[eS (eZ bE b 4294967295),eS d],())).bind λ(c,_)=>Y (c,())
def C8:cH->bw gd:=λ(a,_)=>Y ((eZ bE a 9223372036854775808 !=0),())
def u2:he->bw he:=λ(a,_)=>rB a.length (Y ([],())) ((bh (([]:bg).length+a.length)).bind λ_=>Y (([]++a),()))
def sC:gE->bw gE:=λ(a,_)=>(u2 (a.2.1,())).bind λ(b,_)=>(l3 ((!a.1),b,())).bind λ(c,_)=>Y (c,())
def xm:bt->bw gg:=λ_=>Y ((bp,((br,([],())),((0:Z),()))),())
def Di:gE->bw gE:=λ(a,_)=>(u2 (a.2.1,())).bind λ(b,_)=>(l3 (a.1,b,())).bind λ(c,_)=>Y (c,())
def pX:gE->bw cH:=λ(a,_)=>(iu (a.2.1,())).bind λ(b,_)=>(bz (ak b==0) (Y (0,())) (bz a.1 (Y ((-1:Z),())) (Y (1,()))))
def zZ:gE->bw cH:=λ(b,_)=>(loop (σ:=cH) (ρ:=nw) (λ(a,_)=>bz (bu (a<ak b.2.1)) ((aj b.2.1 a).bind λc=>bz (c !=0) ((xD (c,())).bind λ(aL,_)=>Y (.inr (.inr (au (au (a*32)+aL),())))) (Y (.inl (aH a,())))) (Y (.inr (.inl ())))) (0,())).bind λd=>match d with
 |.inl _=>(Y (0,()))
 |.inr e=>Y e
def z2:he->bw cH:=λ(a,_)=>(bz (ak a==0) (Y (0,())) ((aj a (au (ak a-1))).bind λc=>(xC (c,())).bind λ(b,_)=>Y (au (au (au (ak a-1)*32)+b),())))
def sB:gE->bw cH:=λ(a,_)=>(iu (a.2.1,())).bind λ(b,_)=>(z2 (b,())).bind λ(c,_)=>Y (c,())
def xw:ny->bw he:=λ(b,e,_)=>(bz (ak b==0) (Y ([],())) ((kB bK e 32).bind λc=>(iR e 32).bind λj=>(fj (aH (au (c+ak b))) (aH (au (c+ak b)))).bind λg=>(loop (σ:=iJ) (ρ:=he) (λ(a,d,_)=>bz (bu (a<ak b)) ((aj b a).bind λk=>(h4 bE (aY k) (aY j)).bind λf=>rd d (au (c+a)) λl=>wr d (au (c+a)) (gr cb l (eS (eZ bE f 4294967295))) λn=>(eJ bE f 32).bind λm=>wr n (aH (au (c+a))) (eS m) λo=>Y (.inl (aH a,o,()))) (Y (.inr (d,())))) (0,bJ g (0:Z),())).bind λ(h,_)=>(iu (h,())).bind λ(i,_)=>Y (i,())))
def HJ:cH->bw gd:=λ(a,_)=>Y ((a !=0),())
def HW:(bg×bt×bt)->bw cH:=λ(b,_,_)=>(loop (σ:=cH) (ρ:=nw) (λ(a,_)=>bz (bu (a<ak b)) ((aj b a).bind λf=>(HJ (f,())).bind λ(e,_)=>bz e (Y (.inr (.inr (a,())))) (Y (.inl (aH a,())))) (Y (.inr (.inl ())))) (0,())).bind λc=>match c with
 |.inl _=>(Y ((-1:Z),()))
 |.inr d=>Y d
def z7:(bg×bt×bt)->bw gd:=λ(b,_,_)=>(HW (b,(),())).bind λ(a,_)=>Y (bu (a>=0),())
def z1:ny->bw (bg×bA×bt):=λ(a,h,_)=>(kB bK h 32).bind λb=>(iR h 32).bind λj=>(bif bu (b>=ak a) then Y ([],bu (ak a>0),()) else bC (α:=gd) (((Y (0)).bind λe=>(fY b).bind λf=>(gZ e f a.length).map λ_=>(e,f)).bind λi=>(z7 (((a.take i.2).drop i.1),(),())).bind λ(p,_)=>bz (p==br) ((aj a b).bind λs=>(h4 cb 1 (aY j)).bind λt=>Y ((eZ cb s (eS (t-1))!=0),())) (Y (bp,()))) λ(l,_)=>(fj (au (ak a-b)) (au (ak a-b))).bind λg=>(loop (σ:=iJ) (ρ:=he) (λ(c,d,_)=>bif bu (c<ak (bJ g (0:Z))) then bC (α:=he) ((aj a (au (b+c))).bind λk=>bC (α:=iJ) (bz (bu (aH (au (b+c))<ak a)) ((aj a (aH (au (b+c)))).bind λu=>(h4 bE (aY u) 32).bind λv=>Y (gr bE (aY k) v,d,())) (Y (aY k,d,()))) λ(r,m,_)=>
 (eJ bE r (aY j)).bind λw=>wr m c (eS (eZ bE w 4294967295)) λx=>Y (x,())) λ(n,_)=>Y (.inl (aH c,n,())) else Y (.inr (d,()))) (0,bJ g (0:Z),())).bind λ(o,_)=>(iu (o,())).bind λ(q,_)=>Y (q,l,()))
def xv:kM->bw he:=λ(b,d,_)=>bC (α:=kM) (bz (bu (ak b<ak d)) (Y (d,b,())) (Y (b,d,()))) λ(c,h,_)=>(fj 0 (aH (ak c))).bind λn=>(loop (σ:=pP) (ρ:=iJ) (λ(e,a,f,_)=>bz (bu (a<ak c)) (bC (α:=iJ) ((aj c a).bind λl=>bC (α:=iJ) (bz (bu (a<ak h)) ((aj h a).bind λq=>Y (aY (aY (aY l+e)+aY q),f,())) (Y (aY (aY l+e),f,()))) λ(g,j,_)=>(bh (j.length+([eS (eZ bE g 4294967295)]).length)).bind λ_=>(eJ bE g 32).bind λr=>Y (r,(j++[eS (eZ bE g 4294967295)]),())) λ(m,o,_)=>Y (.inl (m,aH a,o,()))) (Y (.inr (e,f,())))) (0,0,bJ n (0:Z),())).bind λ(i,k,_)=>(bh (k.length+([eS i]).length)).bind λ_=>(iu ((k++[eS i]),())).bind λ(p,_)=>Y (p,())
def qU:pQ->bw pQ:=λ(b,a,_)=>bC (α:=gE⊕pQ) (bC (α:=(bA×eG×bt)) (bz (bu (a<(-1048576:Z))==br) (Y (bu (a>1048576),(br,([],())),())) (Y (bp,(br,([],())),()))) λ(p,q,_)=>bz p (Y (.inr ((br,(([]:bg),())),3,()))) (Y (.inl (q,())))) λh=>match h with
 |.inl (f,_)=>((iu (b.2.1,())).bind λ(c,_)=>bz (bu (a>=0)) ((xw (c,a,())).bind λ(m,_)=>(l3 (b.1,m,())).bind λ(n,_)=>Y (n,0,())) ((z1 (c,au (0-a),())).bind λ(d,j,_)=>bC (α:=(bg×eG×bt)) (bC (α:=(bA×eG×bt)) (bz (b.1==bp) (Y (j,f,())) (Y (br,f,()))) λ(o,e,_)=>bz o ((xv (d,[1],())).bind λ(k,_)=>Y (k,e,())) (Y (d,e,()))) λ(g,_,_)=>(l3 (b.1,g,())).bind λ(l,_)=>Y (l,0,())))
 |.inr i=>Y i
def zP:pQ->bw gE:=λ(d,f,_)=>(loop (σ:=(Z×eG×eG×bt)) (ρ:=(Z×eG×eG×bt)) (λ(a,b,c,_)=>bz (bu (a>1048576)) ((qU (b,(-1048576:Z),())).bind λ(i,_,_)=>Y (.inl (au (a-1048576),i,c,()))) (Y (.inr (a,b,c,())))) (f,d,(br,([],())),())).bind λ(g,e,_,_)=>(qU (e,au (0-g),())).bind λ(h,_,_)=>Y (h,())
def ot:gg->bw (eP×bA×bt):=λ(a,_)=>(bif a.1 then(xm ()).bind λ(j,_)=>Y (j,br,()) else(Di (a.2.1,())).bind λ(b,_)=>(pX (b,())).bind λ(aL,_)=>bif aL==0 then Y ((br,((br,([],())),((0:Z),()))),bp,()) else((zZ (b,())).bind λ(c,_)=>bC (α:=(eP×eG×bt)⊕(eP×bA×bt)) (bC (α:=(bA×eP×eG×bt)) ((sB (b,())).bind λ(k,_)=>bz (bu (a.2.2.1>au (65536-k))==br) (Y (bu (a.2.2.1<au ((-65536:Z)-c)),(br,((br,([],())),((0:Z),()))),b,())) (Y (bp,(br,((br,([],())),((0:Z),()))),b,()))) λ(l,m,e,_)=>bz l ((xm ()).bind λ(h,_)=>Y (.inr (h,br,()))) (Y (.inl (m,e,())))) λf=>match f with
 |.inl (_,d,_)=>((zP (d,c,())).bind λ(i,_)=>Y ((br,(i,(au (a.2.2.1+c),()))),bp,()))
 |.inr g=>Y g))
def sv:pQ->bw gg:=λ(b,a,_)=>(ot ((br,(b,(a,()))),())).bind λ(c,_,_)=>Y (c,())
def kP:cH->bw gg:=λ(b,_)=>(xo (b,())).bind λ(a,c,_)=>bC (α:=(Z×Z×eP×bt)⊕gg) (bz (a==2047) (Y (.inr ((bp,((br,([],())),((0:Z),()))),()))) (bz (a==0) (Y (.inl ((-1074:Z),c,(br,((br,([],())),((0:Z),()))),()))) (Y (.inl (au (a-1075),gr bE c 4503599627370496,(br,((br,([],())),((0:Z),()))),()))))) λi=>match i with
 |.inl (f,g,e,_)=>((uW (au g,())).bind λ(d,_)=>bC (α:=(eP×eG×bt)) ((C8 (b,())).bind λ(l,_)=>bz l ((sC (d,())).bind λ(m,_)=>Y (e,m,())) (Y (e,d,()))) λ(_,h,_)=>(sv (h,f,())).bind λ(k,_)=>Y (k,()))
 |.inr j=>Y j
def xn:jQ->bw (eP×eP×bA×bt):=λ(c,d,_)=>(ot (c,())).bind λ(a,aL,_)=>(ot (d,())).bind λ(b,e,_)=>(bz (aL==bp) (Y (a,b,e,())) (Y (a,b,br,())))
def Dk:kM->bw he:=λ(c,a,_)=>bC (α:=bt⊕he) (bz ((ak c==0)==br) (bz (ak a==0) (Y (.inr ([],()))) (Y (.inl ()))) (Y (.inr ([],())))) λo=>match o with
 |.inl _=>((fj (au (ak c+ak a)) (au (ak c+ak a))).bind λl=>(loop (σ:=iJ) (ρ:=he) (λ(b,g,_)=>bz (bu (b<ak c)) ((aj c b).bind λh=>(loop (σ:=pP) (ρ:=iJ) (λ(e,d,f,_)=>bz (bu (d<ak a)) ((aj a d).bind λi=>rd f (au (b+d)) λj=>wr f (au (b+d)) (eS (eZ bE (aY (aY (aY (aY h*aY i)+aY j)+e)) 4294967295)) λs=>(eJ bE (aY (aY (aY (aY h*aY i)+aY j)+e)) 32).bind λr=>Y (.inl (r,aH d,s,()))) (Y (.inr (e,f,())))) (0,0,g,())).bind λ(k,m,_)=>wr m (au (b+ak a)) (eS k) λt=>Y (.inl (aH b,t,()))) (Y (.inr (g,())))) (0,bJ l (0:Z),())).bind λ(n,_)=>(iu (n,())).bind λ(q,_)=>Y (q,()))
 |.inr p=>Y p
def Dh:k8->bw gE:=λ(a,b,_)=>(iu (a.2.1,())).bind λ(c,_)=>(iu (b.2.1,())).bind λ(aL,_)=>(Dk (c,aL,())).bind λ(d,_)=>(l3 ((!(a.1==b.1)),d,())).bind λ(e,_)=>Y (e,())
def la:jQ->bw gg:=λ(b,c,_)=>(xn (b,c,())).bind λ(a,aL,d,_)=>(bz (!d) ((xm ()).bind λ(e,_)=>Y (e,())) ((Dh (a.2.1,aL.2.1,())).bind λ(f,_)=>(sv (f,au (a.2.2.1+aL.2.2.1),())).bind λ(g,_)=>Y (g,())))
def C2:gg->bw gg:=λ(b,_)=>(ot (b,())).bind λ(a,d,_)=>bC (α:=jQ) (bz d ((sC (a.2.1,())).bind λ(aL,_)=>Y ((a.1,(aL,a.2.2)),(br,((br,([],())),((0:Z),()))),())) (Y (a,(br,((br,([],())),((0:Z),()))),()))) λ(c,_,_)=>Y (c,())
def oq:pQ->bw gE:=λ(a,b,_)=>(qU (a,b,())).bind λ(c,_,_)=>Y (c,())
def C0:cH->bw gd:=λ(a,_)=>Y ((a !=a),())
def CY:mZ->bw cH:=λ(a,b,_)=>(C0 (a,())).bind λ(c,_)=>(C0 (b,())).bind λ(aL,_)=>(bz c (bz aL (Y (0,())) (Y ((-1:Z),()))) (bz aL (Y (1,())) (bz (bu (a<b)) (Y ((-1:Z),())) (bz (bu (a>b)) (Y (1,())) (Y (0,()))))))
def xq:kM->bw cH:=λ(b,c,_)=>(bif ak b !=ak c then(uQ (ak b,ak c,())).bind λ(f,_)=>Y (f,()) else((loop (σ:=cH) (ρ:=nw) (λ(a,_)=>bz (bu (a>=0)) ((aj b a).bind λh=>(aj c a).bind λi=>bz (h !=i) ((aj b a).bind λj=>(aj c a).bind λk=>(CY (j,k,())).bind λ(g,_)=>Y (.inr (.inr (g,())))) (Y (.inl (au (a-1),())))) (Y (.inr (.inl ())))) (au (ak b-1),())).bind λd=>match d with
 |.inl _=>(Y (0,()))
 |.inr e=>Y e))
def xu:kM->bw he:=λ(b,d,_)=>(fj (ak b) (ak b)).bind λi=>(loop (σ:=pP) (ρ:=he) (λ(e,a,c,_)=>bz (bu (a<ak b)) (bC (α:=iJ) ((aj b a).bind λg=>bC (α:=iJ) (bz (bu (a<ak d)) ((aj d a).bind λn=>Y (aY (aY (aY g-e)-aY n),c,())) (Y (aY (aY g-e),c,()))) λ(f,j,_)=>wr j a (eS (eZ bE f 4294967295)) λp=>(eJ bE f 32).bind λo=>Y (eZ bE o 1,p,())) λ(h,k,_)=>Y (.inl (h,aH a,k,()))) (Y (.inr (c,())))) (0,0,bJ i (0:Z),())).bind λ(l,_)=>(iu (l,())).bind λ(m,_)=>Y (m,())
def sA:k8->bw gE:=λ(a,c,_)=>(iu (a.2.1,())).bind λ(b,_)=>(iu (c.2.1,())).bind λ(aL,_)=>(bz (a.1==c.1) ((xv (b,aL,())).bind λ(f,_)=>(l3 (a.1,f,())).bind λ(g,_)=>Y (g,())) ((xq (b,aL,())).bind λ(h,_)=>bz (bu (h>=0)) ((xu (b,aL,())).bind λ(i,_)=>(l3 (a.1,i,())).bind λ(j,_)=>Y (j,())) ((xu (aL,b,())).bind λ(d,_)=>(l3 (c.1,d,())).bind λ(e,_)=>Y (e,()))))
def C5:(mY×bt)->bw gg:=λ(i,_)=>(loop (σ:=(Z×Z×eP×mY×bt)) (ρ:=((Z×eP×mY×bt)⊕gg)) (λ(c,e,k,b,_)=>bz (bu (e<ak i)) ((aj i e).bind λw=>(ot (w,())).bind λ(a,s,_)=>bz (!s) ((xm ()).bind λ(t,_)=>Y (.inr (.inr (t,())))) ((bh (b.length+([a]).length)).bind λ_=>Y (.inl ((if a.2.2.1<c then a.2.2.1 else c),aH e,k,(b++[a]),())))) (Y (.inr (.inl (c,k,b,()))))) (0,0,(br,((br,([],())),((0:Z),()))),[],())).bind λn=>match n with
 |.inl (h,u,f,_)=>((loop (σ:=(Z×eP×mY×eG×bt)) (ρ:=(eP×eG×bt)) (λ(d,j,g,l,_)=>bz (bu (d<ak f)) (rd g d λm=>(oq (m.2.1,au (m.2.2.1-h),())).bind λ(p,_)=>(sA (l,p,())).bind λ(q,_)=>Y (.inl (aH d,j,g,q,()))) (Y (.inr (j,l,())))) (0,u,f,(br,([],())),())).bind λ(_,v,_)=>(sv (v,h,())).bind λ(r,_)=>Y (r,()))
 |.inr o=>Y o
def oo:gg->bw cH:=λ(a,_)=>(ot (a,())).bind λ(b,_,_)=>(pX (b.2.1,())).bind λ(aL,_)=>Y (aL,())
def uT:gg->bw gg:=λ(a,_)=>(ot (a,())).bind λ(b,_,_)=>Y (b,())
def Nt:ny->bw ny:=λ(a,c,_)=>(fj (ak a) (ak a)).bind λh=>(loop (σ:=pP) (ρ:=iJ) (λ(e,b,d,_)=>bz (bu (b>=0)) ((h4 bE e 32).bind λf=>(aj a b).bind λg=>(kB bE (gr bE f (aY g)) (aY c)).bind λl=>wr d b (eS l) λn=>(iR (gr bE f (aY g)) (aY c)).bind λm=>Y (.inl (m,au (b-1),n,()))) (Y (.inr (e,d,())))) (0,au (ak a-1),bJ h (0:Z),())).bind λ(k,i,_)=>(iu (i,())).bind λ(j,_)=>Y (j,eS k,())
def z6:cH->bw cH:=λ(b,_)=>(xC (b,())).bind λ(a,_)=>Y (au (32-a),())
def Nr:((bg×X×X)×bg×bt)->bw ny:=λ(b,a,_)=>(bf (b.2.2-b.2.1) (ak a)).bind λV=>(a8 b.1 (b.2.1+V) λP=>Y P).bind λc2=>(h4 bE (aY c2) 32).bind λI=>(bf (b.2.2-b.2.1) (au (ak a-1))).bind λav=>(a8 b.1 (b.2.1+av) λT=>Y T).bind λK=>(aj a (au (ak a-1))).bind λbl=>(kB bE (gr bE I (aY K)) (aY bl)).bind λbs=>(aj a (au (ak a-1))).bind λbx=>(iR (gr bE I (aY K)) (aY bx)).bind λce=>(loop (σ:=(et×Z×Z×bg×bt)) (ρ:=(et×Z×bg×bt)) (λ(g,h,r,m,_)=>bC (α:=(et×bg×bt)⊕((et×Z×Z×bg×bt)⊕(et×Z×bg×bt))) (bif bu (h>4294967295)==br then(aj a (au (ak a-2))).bind λci=>(h4 bE r 32).bind λco=>(bf (g.2-g.1) (au (ak a-2))).bind λU=>(a8 m (g.1+U) λN=>Y N).bind λcs=>bif bu (aY (h*aY ci)>gr bE co (aY cs)) then
 Y (.inl (g,m,())) else Y (.inr (.inr (g,h,m,()))) else Y (.inl (g,m,()))) λa0=>match a0 with
 |.inl (C,D,_)=>((aj a (au (ak a-1))).bind λE=>bz (bu (aY (r+aY E)>4294967295)) (Y (.inr (C,aY (h-1),D,()))) (Y (.inl (C,aY (h-1),aY (r+aY E),D,()))))
 |.inr a1=>Y a1) (b.2,bs,ce,b.1,())).bind λ(a3,i,a4,_)=>(loop (σ:=(et×Z×Z×Z×bg×bt)) (ρ:=(et×Z×Z×bg×bt)) (λ(e,l,p,j,n,_)=>bz (bu (j<ak a)) ((aj a j).bind λu=>(eJ bE (aY (aY (i*aY u)+l)) 32).bind λcv=>(bf (e.2-e.1) j).bind λad=>(a8 n (e.1+ad) λO=>Y O).bind λF=>(bf (e.2-e.1) j).bind λy=>(a8 n (e.1+y) λ_=>Y (n.set (e.1+y) (eS (eZ bE (aY (aY (aY F-eZ bE (aY (aY (i*aY u)+l)) 4294967295)-p)) 4294967295)))).bind λd0=>(eJ bE (aY (aY (aY F-eZ bE (aY (aY (i*aY u)+l)) 4294967295)-p)) 32).bind λc1=>Y (.inl (e,cv,eZ bE c1 1,aH j,d0,()))) (Y (.inr (e,l,p,n,())))) (a3,0,0,0,a4,())).bind λ(c,x,w,s,_)=>(bf (c.2-c.1) (ak a)).bind λam=>(a8 s (c.1+am) λQ=>Y Q).bind λG=>
 (bf (c.2-c.1) (ak a)).bind λz=>(a8 s (c.1+z) λ_=>Y (s.set (c.1+z) (eS (eZ bE (aY (aY (aY G-x)-w)) 4294967295)))).bind λv=>(eJ bE (aY (aY (aY G-x)-w)) 32).bind λdg=>(bif eZ bE dg 1==0 then bz (bI c.1 b.2.1&&(bI c.2 b.2.2&&(bI v.length ((b.1).length)&&cf c.1 c.2))) (Y (v,eS i,())) bq else(loop (σ:=(et×Z×Z×bg×bt)) (ρ:=(et×Z×bg×bt)) (λ(f,q,k,o,_)=>bz (bu (k<ak a)) ((aj a k).bind λH=>(bf (f.2-f.1) k).bind λan=>(a8 o (f.1+an) λR=>Y R).bind λJ=>(bf (f.2-f.1) k).bind λA=>(a8 o (f.1+A) λ_=>Y (o.set (f.1+A) (eS (eZ bE (aY (aY (aY J+aY H)+q)) 4294967295)))).bind λd1=>(eJ bE (aY (aY (aY J+aY H)+q)) 32).bind λdl=>Y (.inl (f,dl,aH k,d1,()))) (Y (.inr (f,q,o,())))) (c,0,0,v,())).bind λ(d,M,t,_)=>
 (bf (d.2-d.1) (ak a)).bind λap=>(a8 t (d.1+ap) λS=>Y S).bind λds=>(bf (d.2-d.1) (ak a)).bind λB=>(a8 t (d.1+B) λ_=>Y (t.set (d.1+B) (eS (ds+eS M)))).bind λL=>bz (bI d.1 b.2.1&&(bI d.2 b.2.2&&(bI L.length ((b.1).length)&&cf d.1 d.2))) (Y (L,eS (aY (i-1)),())) bq)
def Ns:kM->bw kM:=λ(a,b,_)=>(xq (a,b,())).bind λ(t,_)=>(bif bu (t<0) then(u2 (a,())).bind λ(u,_)=>Y ([],u,()) else bif ak b==1 then(aj b 0).bind λC=>(Nt (a,C,())).bind λ(v,w,_)=>(iu ([w],())).bind λ(x,_)=>Y (v,x,()) else(aj b (au (ak b-1))).bind λD=>(z6 (D,())).bind λ(h,_)=>(xw (b,h,())).bind λ(e,_)=>(fj (aH (ak a)) (aH (ak a))).bind λc=>(xw (a,h,())).bind λ(i,_)=>(fj (au (ak (j8 (bJ c (0:Z)) i 0 (bJ c (0:Z)).length)-ak e)) (au (ak (j8 (bJ c (0:Z)) i 0 (bJ c (0:Z)).length)-ak e))).bind λn=>(loop (σ:=(Z×bg×bg×bt)) (ρ:=kM) (λ(d,p,g,_)=>bif bu (d>=0) then((fY d).bind λj=>(fY (aH (au (d+ak e)))).bind λk=>(gZ j k g.length).bind λ_=>(oI g.length).map λ_=>(j,k)).bind λf=>
 bz (cf f.1 f.2) ((Nr ((g,f.1,f.2),e,())).bind λ(r,y,_)=>wr p d y λE=>Y (.inl (au (d-1),E,r,()))) bq else Y (.inr (p,g,()))) (au (ak (bJ n (0:Z))-1),bJ n (0:Z),j8 (bJ c (0:Z)) i 0 (bJ c (0:Z)).length,())).bind λ(s,q,_)=>((Y (0)).bind λl=>(fY (ak e)).bind λm=>(gZ l m q.length).map λ_=>(l,m)).bind λo=>(iu (((q.take o.2).drop o.1),())).bind λ(z,_)=>(z1 (z,h,())).bind λ(A,_,_)=>(iu (s,())).bind λ(B,_)=>Y (B,A,()))
def zY:k8->bw cH:=λ(b,c,_)=>(pX (b,())).bind λ(a,_)=>(pX (c,())).bind λ(aL,_)=>(bz (bu (a<aL)) (Y ((-1:Z),())) (bz (bu (a>aL)) (Y (1,())) ((iu (b.2.1,())).bind λ(d,_)=>(iu (c.2.1,())).bind λ(e,_)=>(xq (d,e,())).bind λ(f,_)=>Y (au (a*f),()))))
def C3:(w3×bt)->bw cH:=λ(a,_)=>(sB (a.2.1,())).bind λ(b,_)=>Y (au (au (a.2.2.1+b)-1),())
def Dj:k8->bw gE:=λ(b,a,_)=>(sA (b,((!a.1),a.2),())).bind λ(c,_)=>Y (c,())
def zN:(w3×Z×bt)->bw (eG×Z×bA×bt):=λ(a,b,_)=>(sB (a.2.1,())).bind λ(h,_)=>(bz (bu (b>h)) (Y ((br,(([]:bg),())),(-1:Z),br,())) ((zP (a.2.1,b,())).bind λ(aL,_)=>(oq (aL,b,())).bind λ(i,_)=>(Dj (a.2.1,i,())).bind λ(c,_)=>(uW (1,())).bind λ(j,_)=>(oq (j,au (b-1),())).bind λ(k,_)=>(zY (c,k,())).bind λ(d,_)=>bC (α:=(Z×eG×eG×bt)) (bz ((d==0)==bp) (bz a.2.2.2.1 (Y (1,aL,c,())) (Y (d,aL,c,()))) (Y (d,aL,c,()))) λ(e,f,l,_)=>(pX (l,())).bind λ(g,_)=>bz ((g==0)==bp) (Y (f,e,(!a.2.2.2.1),())) (Y (f,e,br,()))))
def C4:(w3×Z×Z×bt)->bw gE:=λ(c,e,d,_)=>bC (α:=(Z×bA×eG×eG×bt)) (bz (bu (e<=c.2.2.1)) ((oq (c.2.1,au (c.2.2.1-e),())).bind λ(aL,_)=>Y ((-1:Z),bp,(br,([],())),aL,())) ((zN (c,au (e-c.2.2.1),())).bind λ(s,t,u,_)=>Y (t,u,(br,([],())),s,()))) λ(f,l,b,a,_)=>bC (α:=(bA×eG×eG×bt)) (bz l (Y (br,b,a,())) (bz (d==1) (Y (c.1,b,a,())) (bz (d==2) (Y ((!c.1),b,a,())) (bz (d==3) (Y (br,b,a,())) (bz (bu (f>0)==br) (bz ((f==0)==bp) ((pX (a,())).bind λ(n,_)=>bz ((n !=0)==bp) ((zZ (a,())).bind λ(o,_)=>Y ((o==0),b,a,())) (Y (br,b,a,()))) (Y (br,b,a,()))) (Y (bp,b,a,()))))))) λ(k,i,g,_)=>bC (α:=k8) (bz k ((uW (1,())).bind λ(p,_)=>(sA (g,p,())).bind λ(q,_)=>Y (i,q,())) (Y (i,g,()))) λ(j,h,_)=>bC (α:=k8) (bz c.1 ((sC (h,())).bind λ(r,_)=>Y (j,r,())) (Y (j,h,()))) λ(_,m,_)=>Y (m,())
def sy:gE->bw gE:=λ(a,_)=>(u2 (a.2.1,())).bind λ(b,_)=>(l3 (br,b,())).bind λ(c,_)=>Y (c,())
def Dg:gE->bw ej:=λ(c,_)=>(iu (c.2.1,())).bind λ(d,_)=>(bif bu (ak d>2) then Y (0,br,()) else((loop (σ:=mZ) (ρ:=cH) (λ(e,b,_)=>bz (bu (b<ak d)) ((aj d b).bind λj=>(h4 bE (aY j) (au (32*b))).bind λk=>Y (.inl (gr bE e k,aH b,()))) (Y (.inr (e,())))) (0,0,())).bind λ(a,_)=>bC (α:=bt⊕ej) (bC (α:=gd) (bz (c.1==bp) (bz (bu (a>0)==bp) (Y (bu (a<=9223372036854775808),())) (Y (br,()))) (Y (br,()))) λ(h,_)=>bz h (Y (.inr (au (au (0-au (aY (a-1)))-1),bp,()))) (bC (α:=gd) (bz (bu (a<9223372036854775808)==bp) (bz ((!c.1)==br) (Y ((a==0),())) (Y (bp,()))) (Y (br,()))) λ(i,_)=>bz i (Y (.inr (au a,bp,()))) (Y (.inl ())))) λf=>match f with
 |.inl _=>(Y (0,br,()))
 |.inr g=>Y g))
def uV:ej->bw cH:=λ(a,b,_)=>(bz b (Y (gr bE a 9223372036854775808,())) (Y (a,())))
def C9:eo->bw cH:=λ(a,b,_)=>bC (α:=bt⊕cH) (bC (α:=gd) (bz ((b==3)==br) (bz ((b==1)==bp) (bz ((!a)==br) (bz ((b==2)==bp) (Y (a,())) (Y (br,()))) (Y (bp,()))) (bz ((b==2)==bp) (Y (a,())) (Y (br,())))) (Y (bp,()))) λ(f,_)=>bz f ((uV (9218868437227405311,a,())).bind λ(aL,_)=>Y (.inr (aL,()))) (Y (.inl ()))) λc=>match c with
 |.inl _=>((uV (9218868437227405312,a,())).bind λ(e,_)=>Y (e,()))
 |.inr d=>Y d
def zR:(w3×Z×bt)->bw cH:=λ(b,d,_)=>(C3 (b,())).bind λ(a,_)=>(C4 (b,(if(-1074:Z)>au (a-52) then(-1074:Z) else au (a-52)),d,())).bind λ(aL,_)=>(sy (aL,())).bind λ(j,_)=>(Dg (j,())).bind λ(f,_,_)=>bC (α:=mZ) (bz (aY f==9007199254740992) (Y (aH (if(-1074:Z)>au (a-52) then(-1074:Z) else au (a-52)),4503599627370496,())) (Y ((if(-1074:Z)>au (a-52) then(-1074:Z) else au (a-52)),aY f,()))) λ(e,c,_)=>(bz (bu (c<4503599627370496)) ((uV (c,b.1,())).bind λ(g,_)=>Y (g,())) (bz (bu (au (e+1075)>=2047)) ((C9 (b.1,d,())).bind λ(h,_)=>Y (h,())) ((h4 bE (aY (au (e+1075))) 52).bind λk=>(uV (gr bE k (aY (c-4503599627370496)),b.1,())).bind λ(i,_)=>Y (i,()))))
def C6:cH->bw cH:=λ(c,_)=>(xo (c,())).bind λ(a,b,_)=>bC (α:=gd) (bz ((a==2047)==bp) (Y ((b !=0),())) (Y (br,()))) λ(d,_)=>(bz d (Y (3,())) (bz (a==2047) (Y (2,())) (bz ((a==0)==bp) (bz (b==0) (Y (0,())) (Y (1,()))) (Y (1,())))))
def Nq:k8->bw (eG×eG×Z×bt):=λ(a,d,_)=>(iu (d.2.1,())).bind λ(b,_)=>(bz (ak b==0) (Y ((br,(([]:bg),())),(br,(([]:bg),())),8,())) ((iu (a.2.1,())).bind λ(aL,_)=>(Ns (aL,b,())).bind λ(f,c,_)=>bC (α:=(bg×bg×eG×eG×bt)) (bC (α:=(bA×eG×eG×bt)) (bz (a.1==bp) (Y (bu (ak c>0),(br,([],())),(br,([],())),())) (Y (br,(br,([],())),(br,([],())),()))) λ(n,e,g,_)=>bz n ((xv (f,[1],())).bind λ(j,_)=>(xu (b,c,())).bind λ(k,_)=>Y (j,k,e,g,())) (Y (f,c,e,g,()))) λ(h,i,_,_,_)=>(l3 ((!(a.1==d.1)),h,())).bind λ(l,_)=>(l3 (br,i,())).bind λ(m,_)=>Y (l,m,0,())))
def Np:(eP×eP×Z×bt)->bw (w3×bt):=λ(a,b,c,_)=>(sB (b.2.1,())).bind λ(aL,_)=>(sB (a.2.1,())).bind λ(d,_)=>(sy (a.2.1,())).bind λ(g,_)=>(oq (g,(if(au (au (au (c+3)+aL)-d))>0 then au (au (au (c+3)+aL)-d) else 0),())).bind λ(h,_)=>(sy (b.2.1,())).bind λ(i,_)=>(Nq (h,i,())).bind λ(j,e,_,_)=>(pX (e,())).bind λ(f,_)=>Y (((!(a.2.1.1==b.2.1.1)),(j,(au (au (a.2.2.1-(if(au (au (au (c+3)+aL)-d))>0 then au (au (au (c+3)+aL)-d) else 0))-b.2.2.1),((f !=0),())))),())
def zQ:(eP×eP×Z×bt)->bw cH:=λ(c,f,h,_)=>(uT (c,())).bind λ(aL,_)=>(uT (f,())).bind λ(a,_)=>bC (α:=jQ⊕cH) (bC (α:=(bA×eP×eP×bt)) (bz (aL.1==br) (bz (a.1==br) ((oo (a,())).bind λ(n,_)=>Y ((n==0),aL,a,())) (Y (bp,aL,a,()))) (Y (bp,aL,a,()))) λ(o,b,g,_)=>bz o (Y (.inr (9221120237041090560,()))) ((oo (b,())).bind λ(k,_)=>bz (k==0) (Y (.inr (0,()))) (Y (.inl (b,g,()))))) λi=>match i with
 |.inl (d,e,_)=>((Np (d,e,56,())).bind λ(l,_)=>(zR (l,h,())).bind λ(m,_)=>Y (m,()))
 |.inr j=>Y j
def o8:cH->bw gd:=λ(a,_)=>(eJ bE a 52).bind λb=>Y ((eZ bE b 2047 !=2047),())
def D5:cH->bw gd:=λ(a,_)=>Y ((eZ bE a 9223372036854775808 !=0),())
def iV:cH->bw gg:=λ(a,_)=>(o8 (a,())).bind λ(f,_)=>(bz (!f) ((sL ()).bind λ(g,_)=>Y (g,())) ((eJ bE a 52).bind λc=>bC (α:=(Z×Z×eP×bt)) (bz (bu (au (eZ bE c 2047)>0)) (Y (gr bE (eZ bE a 4503599627370495) 4503599627370496,au (au (eZ bE c 2047)-1075),(br,((br,([],())),((0:Z),()))),())) (Y (eZ bE a 4503599627370495,(-1074:Z),(br,((br,([],())),((0:Z),()))),()))) λ(b,d,_,_)=>(D5 (a,())).bind λ(h,_)=>(eJ bE b 32).bind λi=>(ov ((h,([eS b,eS i],())),d,())).bind λ(e,_)=>Y (e,())))
def xL:gg->bw gg:=λ(b,_)=>(ld (b,())).bind λ(a,_)=>(bz a.1 (Y (a,())) ((qY (a.2.1,())).bind λ(c,_)=>(ov (c,a.2.2.1,())).bind λ(aL,_)=>Y (aL,())))
def Aj:(mY×bt)->bw gg:=λ(h,_)=>(loop (σ:=(Z×Z×eP×eG×bt)) (ρ:=((Z×eP×eG×bt)⊕gg)) (λ(b,e,c,d,_)=>bif bu (e<ak h) then(bC (α:=(Z×eP×eG×bt)⊕((Z×Z×eP×eG×bt)⊕((Z×eP×eG×bt)⊕gg))) ((aj h e).bind λv=>(ld (v,())).bind λ(a,_)=>bz a.1 ((sL ()).bind λ(q,_)=>Y (.inr (.inr (.inr (q,()))))) ((l4 (a.2.1,())).bind λ(r,_)=>bz (r==0) (Y (.inl (b,c,d,()))) ((l4 (d,())).bind λ(k,_)=>bz (k==0) (Y (.inl (a.2.2.1,c,a.2.1,()))) (bz (bu (a.2.2.1>=b)) ((m5 (a.2.1,au (a.2.2.1-b),())).bind λ(l,_)=>(pY (d,l,())).bind λ(m,_)=>Y (.inl (b,c,m,()))) ((m5 (d,au (b-a.2.2.1),())).bind λ(n,_)=>(pY (n,a.2.1,())).bind λ(o,_)=>Y (.inl (a.2.2.1,c,o,()))))))) λf=>match f with
 |.inl (i,s,t,_)=>(Y (.inl (i,aH e,s,t,())))
 |.inr g=>Y g) else Y (.inr (.inl (b,c,d,())))) (0,0,(br,((br,([],())),((0:Z),()))),(br,(([]:bg),())),())).bind λf=>match f with
 |.inl (j,_,u,_)=>((ov (u,j,())).bind λ(p,_)=>Y (p,()))
 |.inr g=>Y g
def DY:kM->bw he:=λ(d,b,_)=>(fj (au (ak d+ak b)) (au (ak d+ak b))).bind λl=>(loop (σ:=iJ) (ρ:=he) (λ(a,g,_)=>bz (bu (a<ak d)) ((loop (σ:=pP) (ρ:=iJ) (λ(e,c,f,_)=>bz (bu (c<ak b)) ((aj d a).bind λj=>(aj b c).bind λh=>rd f (au (a+c)) λi=>wr f (au (a+c)) (eS (aY (aY (e+aY (aY j*aY h))+aY i))) λp=>(eJ bE (aY (aY (e+aY (aY j*aY h))+aY i)) 32).bind λo=>Y (.inl (o,aH c,p,()))) (Y (.inr (e,f,())))) (0,0,g,())).bind λ(k,m,_)=>wr m (au (a+ak b)) (eS k) λq=>Y (.inl (aH a,q,()))) (Y (.inr (g,())))) (0,bJ l (0:Z),())).bind λ(n,_)=>Y (n,())
def DV:k8->bw gE:=λ(a,b,_)=>(mA (a.2.1,())).bind λ(c,_)=>(mA (b.2.1,())).bind λ(aL,_)=>(DY (c,aL,())).bind λ(d,_)=>(l5 ((!(a.1==b.1)),d,())).bind λ(e,_)=>Y (e,())
def jV:jQ->bw gg:=λ(d,f,_)=>(ld (d,())).bind λ(a,_)=>(ld (f,())).bind λ(aL,_)=>bC (α:=(eP×eP×eP×bt)⊕gg) (bC (α:=(bA×eP×eP×eP×bt)) (bz (a.1==br) (Y (aL.1,a,aL,(br,((br,([],())),((0:Z),()))),())) (Y (bp,a,aL,(br,((br,([],())),((0:Z),()))),()))) λ(m,e,g,n,_)=>bz m ((sL ()).bind λ(l,_)=>Y (.inr (l,()))) (Y (.inl (e,g,n,())))) λh=>match h with
 |.inl (b,c,_,_)=>((DV (b.2.1,c.2.1,())).bind λ(j,_)=>(ov (j,au (b.2.2.1+c.2.2.1),())).bind λ(k,_)=>Y (k,()))
 |.inr i=>Y i
def D1:gg->bw gg:=λ(b,_)=>(ld (b,())).bind λ(a,_)=>(bz a.1 (Y (a,())) ((Af (a.2.1,())).bind λ(c,_)=>(ov (c,a.2.2.1,())).bind λ(aL,_)=>Y (aL,())))
def Ai:(bg×bg×Z×Z×bt)->bw (bg×bA×bt):=λ(w,b,i,r,_)=>(fj (aH (ak b)) (aH (ak b))).bind λs=>(loop (σ:=(Z×Z×Z×bg×bg×bt)) (ρ:=(Z×bg×bg×bt)) (λ(d,h,a,g,f,_)=>bz (bu (a<=ak b)) (bC (α:=(Z×Z×bg×bg×bt)) (bC (α:=(Z×bg×bg×bt)) (bz (bu (a<ak b)) ((aj b a).bind λz=>Y (aY (h+aY (r*aY z)),g,f,())) (Y (h,g,f,()))) λ(e,k,t,_)=>rd k (au (a+i)) λn=>(eJ bE e 32).bind λA=>wr t a (eS (aY (aY (aY n-d)-eZ bE e 4294967295))) λD=>(eJ bE (aY (aY (aY n-d)-eZ bE e 4294967295)) 63).bind λB=>Y (B,A,k,D,())) λ(o,q,x,u,_)=>Y (.inl (o,q,aH a,x,u,()))) (Y (.inr (d,g,f,())))) (0,0,0,w,bJ s (0:Z),())).bind λ(p,l,v,_)=>
 (bz (p !=0) (Y (l,br,())) ((loop (σ:=(Z×bg×bg×bt)) (ρ:=he) (λ(c,m,j,_)=>bz (bu (c<=ak b)) (rd j c λC=>wr m (au (c+i)) C λE=>Y (.inl (aH c,E,j,()))) (Y (.inr (m,())))) (0,l,v,())).bind λ(y,_)=>Y (y,bp,())))
def DX:kM->bw kM:=λ(b,a,_)=>(Ag (b,a,())).bind λ(u,_)=>(bif bu (u<0) then Y ([],b,()) else(aj a (au (ak a-1))).bind λE=>(z6 (E,())).bind λ(i,_)=>(xJ (b,i,())).bind λ(e,_)=>(xJ (a,i,())).bind λ(f,_)=>((Y (0)).bind λj=>(fY (ak a)).bind λk=>(gZ j k f.length).bind λ_=>(oI f.length).map λ_=>(j,k)).bind λd=>bC (α:=kM) (bz (ak e==ak b) ((bh (e.length+([0]).length)).bind λ_=>Y (((f.take d.2).drop d.1),(e++[0]),())) (Y (((f.take d.2).drop d.1),e,()))) λ(o,A,_)=>(fj (aH (au (ak b-ak a))) (aH (au (ak b-ak a)))).bind λr=>(loop (σ:=(Z×bg×bg×bt)) (ρ:=kM) (λ(c,g,m,_)=>bif bu (c>=0) then rd g (au (c+ak a)) λF=>(h4 bE (aY F) 32).bind λG=>rd g (au (au (c+ak a)-1)) λH=>
 (aj o (au (ak a-1))).bind λI=>(kB bE (gr bE G (aY H)) (aY I)).bind λp=>(loop (σ:=(Z×bg×bg×bt)) (ρ:=(Z×bg×bg×bt)) (λ(h,B,n,_)=>(Ai (B,o,c,h,())).bind λ(l,v,_)=>bz (!v) (Y (.inl (aY (h-1),l,n,()))) (Y (.inr (h,l,n,())))) ((if 4294967295<p then 4294967295 else p),g,m,())).bind λ(q,C,s,_)=>wr s c (eS q) λJ=>Y (.inl (au (c-1),C,J,())) else Y (.inr (g,m,()))) (au (ak b-ak a),A,bJ r (0:Z),())).bind λ(D,t,_)=>(mA (D,())).bind λ(w,_)=>(xK (w,i,())).bind λ(x,_,_)=>(mA (t,())).bind λ(y,_)=>(mA (x,())).bind λ(z,_)=>Y (y,z,()))
def DT:k8->bw k8:=λ(e,f,_)=>(pZ (e,())).bind λ(a,_)=>(pZ (f,())).bind λ(aL,_)=>(DX (a.2.1,aL.2.1,())).bind λ(m,n,_)=>(l5 ((!(a.1==aL.1)),m,())).bind λ(b,_)=>(l5 (a.1,n,())).bind λ(c,_)=>bC (α:=(eG×eG×eG×eG×bt)) ((l4 (c,())).bind λ(o,_)=>bz (bu (o<0)) ((qY (aL,())).bind λ(h,_)=>(pY (c,h,())).bind λ(d,_)=>bz aL.1 ((sJ (1,())).bind λ(i,_)=>(pY (b,i,())).bind λ(j,_)=>Y ((br,([],())),(br,([],())),j,d,())) ((sJ (1,())).bind λ(k,_)=>(xI (b,k,())).bind λ(l,_)=>Y ((br,([],())),(br,([],())),l,d,()))) (Y ((br,([],())),(br,([],())),b,c,()))) λ(_,_,g,p,_)=>Y (g,p,())
def DS:k8->bw cH:=λ(a,b,_)=>(xI (a,b,())).bind λ(c,_)=>(l4 (c,())).bind λ(aL,_)=>Y (aL,())
def u9:gg->bw cH:=λ(b,_)=>(ld (b,())).bind λ(a,_)=>(bz a.1 (Y (0,())) ((l4 (a.2.1,())).bind λ(c,_)=>Y (c,())))
def D2:(eG×eG×Z×bt)->bw (eG×Z×bA×bt):=λ(c,d,a,_)=>(u7 (d,())).bind λ(aL,_)=>(u7 (c,())).bind λ(b,_)=>(m5 (c,(if 0>au (au (au (a+2)+aL)-b) then 0 else au (au (au (a+2)+aL)-b)),())).bind λ(e,_)=>(DT (e,d,())).bind λ(f,g,_)=>(l4 (g,())).bind λ(h,_)=>Y (f,au (0-(if 0>au (au (au (a+2)+aL)-b) then 0 else au (au (au (a+2)+aL)-b))),(h !=0),())
def D6:(eP×eP×Z×bt)->bw cH:=λ(d,e,f,_)=>(ld (d,())).bind λ(aL,_)=>(ld (e,())).bind λ(c,_)=>bC (α:=jQ⊕cH) (bz (aL.1==br) (bz (c.1==br) ((l4 (c.2.1,())).bind λ(o,_)=>bz (o==0) (Y (.inr (9221120237041090560,()))) (Y (.inl (aL,c,())))) (Y (.inr (9221120237041090560,())))) (Y (.inr (9221120237041090560,())))) λg=>match g with
 |.inl (a,b,_)=>((l4 (a.2.1,())).bind λ(p,_)=>bz (p==0) (Y (0,())) ((qY (a.2.1,())).bind λ(i,_)=>(qY (b.2.1,())).bind λ(j,_)=>(D2 (i,j,60,())).bind λ(k,l,m,_)=>(Al ((!(a.2.1.1==b.2.1.1)),k,au (au (a.2.2.1-b.2.2.1)+l),m,f,())).bind λ(n,_)=>Y (n,())))
 |.inr h=>Y h
def sO:jQ->bw (eG×eG×Z×bt):=λ(a,b,_)=>(l4 (a.2.1,())).bind λ(c,_)=>(bz (c==0) (Y (a.2.1,b.2.1,b.2.2.1,())) ((l4 (b.2.1,())).bind λ(aL,_)=>bz (aL==0) (Y (a.2.1,b.2.1,a.2.2.1,())) (bz (bu (a.2.2.1>b.2.2.1)) ((m5 (a.2.1,au (a.2.2.1-b.2.2.1),())).bind λ(d,_)=>Y (d,b.2.1,b.2.2.1,())) ((m5 (b.2.1,au (b.2.2.1-a.2.2.1),())).bind λ(e,_)=>Y (a.2.1,e,a.2.2.1,())))))
def sK:jQ->bw gg:=λ(b,f,_)=>(ld (b,())).bind λ(a,_)=>(ld (f,())).bind λ(aL,_)=>bC (α:=(eP×eP×eP×bt)⊕gg) (bC (α:=(bA×eP×eP×eP×bt)) (bz (a.1==br) (Y (aL.1,a,aL,(br,((br,([],())),((0:Z),()))),())) (Y (bp,a,aL,(br,((br,([],())),((0:Z),()))),()))) λ(p,d,g,q,_)=>bz p ((sL ()).bind λ(o,_)=>Y (.inr (o,()))) (Y (.inl (d,g,q,())))) λh=>match h with
 |.inl (c,e,_,_)=>((sO (c,e,())).bind λ(j,k,l,_)=>(pY (j,k,())).bind λ(m,_)=>(ov (m,l,())).bind λ(n,_)=>Y (n,()))
 |.inr i=>Y i
def sN:jQ->bw gg:=λ(a,b,_)=>(D1 (b,())).bind λ(c,_)=>(sK (a,c,())).bind λ(aL,_)=>Y (aL,())
def DZ:jQ->bw ej:=λ(b,e,_)=>(ld (b,())).bind λ(a,_)=>(ld (e,())).bind λ(aL,_)=>bC (α:=jQ⊕ej) (bC (α:=(bA×eP×eP×bt)) (bz (a.1==br) (Y (aL.1,a,aL,())) (Y (bp,a,aL,()))) λ(m,c,f,_)=>bz m (Y (.inr (0,br,()))) (Y (.inl (c,f,())))) λh=>match h with
 |.inl (d,g,_)=>((sO (d,g,())).bind λ(j,k,_,_)=>(DS (j,k,())).bind λ(l,_)=>Y (l,bp,()))
 |.inr i=>Y i
def o7:cH->bw gg:=λ(a,_)=>(uW (a,())).bind λ(b,_)=>(sv (b,0,())).bind λ(c,_)=>Y (c,())
def zO:jQ->bw (eG×eG×Z×bt):=λ(a,b,_)=>(oq (a.2.1,au (a.2.2.1-(if b.2.2.1<a.2.2.1 then b.2.2.1 else a.2.2.1)),())).bind λ(c,_)=>(oq (b.2.1,au (b.2.2.1-(if b.2.2.1<a.2.2.1 then b.2.2.1 else a.2.2.1)),())).bind λ(aL,_)=>Y (c,aL,(if b.2.2.1<a.2.2.1 then b.2.2.1 else a.2.2.1),())
def zM:jQ->bw gg:=λ(a,b,_)=>(xn (a,b,())).bind λ(e,aL,f,_)=>(bz (!f) ((xm ()).bind λ(g,_)=>Y (g,())) ((zO (e,aL,())).bind λ(h,i,j,_)=>(sA (h,i,())).bind λ(c,_)=>(sv (c,j,())).bind λ(d,_)=>Y (d,())))
def sw:jQ->bw gg:=λ(a,b,_)=>(C2 (b,())).bind λ(c,_)=>(zM (a,c,())).bind λ(aL,_)=>Y (aL,())
def C1:gg->bw gg:=λ(b,_)=>(ot (b,())).bind λ(a,d,_)=>bC (α:=jQ) (bz d ((sy (a.2.1,())).bind λ(aL,_)=>Y ((a.1,(aL,a.2.2)),(br,((br,([],())),((0:Z),()))),())) (Y (a,(br,((br,([],())),((0:Z),()))),()))) λ(c,_,_)=>Y (c,())
def uS:jQ->bw ej:=λ(a,b,_)=>(xn (a,b,())).bind λ(c,aL,d,_)=>(bz (!d) (Y (0,br,())) ((zO (c,aL,())).bind λ(e,f,_,_)=>(zY (e,f,())).bind λ(g,_)=>Y (g,bp,())))
def DB:eg->bw gd:=λ(a,c,b,_)=>(bz (bu (a>=c)==bp) (Y (bu (a<=b),())) (Y (br,())))
def DI:he->bw gd:=λ(b,_)=>(loop (σ:=cH) (ρ:=lY) (λ(a,_)=>bz (bu (a>0)) ((aj b a).bind λf=>(aj b (au (a-1))).bind λg=>(uR (f,g,())).bind λ(e,_)=>bz e (Y (.inr (.inr (br,())))) (Y (.inl (au (a-1),())))) (Y (.inr (.inl ())))) (au (ak b-1),())).bind λc=>match c with
 |.inl _=>(Y (bp,()))
 |.inr d=>Y d
def Dz:m3->bw gd:=λ(a,_)=>bC (α:=bt⊕gd) (bz ((ak a.2.2.1 !=aH a.2.1)==br) ((aj a.2.2.1 0).bind λm=>bz ((m !=0)==br) ((DI (a.2.2.1,())).bind λ(l,_)=>bz ((!l)==br) ((aj a.2.2.1 a.2.1).bind λn=>bz ((n !=ak a.2.2.2.1)==br) (bz (ak a.2.2.2.1 !=ak a.2.2.2.2.1) (Y (.inr (br,()))) (Y (.inl ()))) (Y (.inr (br,())))) (Y (.inr (br,())))) (Y (.inr (br,())))) (Y (.inr (br,())))) λb=>match b with
 |.inl _=>((loop (σ:=cH) (ρ:=lY) (λ(e,_)=>bif bu (e<a.2.1) then((aj a.2.2.1 e).bind λo=>(aj a.2.2.1 (aH e)).bind λp=>((fY o).bind λh=>(fY p).bind λi=>(gZ h i (a.2.2.2.1).length).map λ_=>(h,i)).bind λd=>(loop (σ:=mZ) (ρ:=(bt⊕(cH⊕lY))) (λ(j,f,_)=>bif bu (f<ak (((a.2.2.2.1).take d.2).drop d.1)) then(bC (α:=cH⊕(mZ⊕(bt⊕(cH⊕lY)))) ((aj (((a.2.2.2.1).take d.2).drop d.1) f).bind λg=>bC (α:=bt⊕(cH⊕(mZ⊕(bt⊕(cH⊕lY))))) (bz (bu (g<=j)==br) (bz (bu (g>=a.1)) (Y (.inr (.inr (.inr (.inr (.inr (.inr (br,())))))))) (Y (.inl ()))) (Y (.inr (.inr (.inr (.inr (.inr (.inr (br,()))))))))) λb=>match b with
 |.inl _=>(Y (.inl (g,())))
 |.inr c=>Y c) λb=>match b with
 |.inl (k,_)=>(Y (.inl (k,aH f,())))
 |.inr c=>Y c) else Y (.inr (.inl ()))) ((-1:Z),0,())).bind λb=>match b with
 |.inl _=>(Y (.inl (aH e,())))
 |.inr c=>Y c) else Y (.inr (.inl ()))) (0,())).bind λb=>match b with
 |.inl _=>(Y (bp,()))
 |.inr c=>Y c)
 |.inr c=>Y c
def HQ:cH->bw gd:=λ(a,_)=>(ou (a,())).bind λ(b,_)=>Y ((!b),())
def HS:(bg×bt×bt)->bw cH:=λ(b,_,_)=>(loop (σ:=cH) (ρ:=nw) (λ(a,_)=>bz (bu (a<ak b)) ((aj b a).bind λf=>(HQ (f,())).bind λ(e,_)=>bz e (Y (.inr (.inr (a,())))) (Y (.inl (aH a,())))) (Y (.inr (.inl ())))) (0,())).bind λc=>match c with
 |.inl _=>(Y ((-1:Z),()))
 |.inr d=>Y d
def DC:(bg×bt×bt)->bw gd:=λ(b,_,_)=>(HS (b,(),())).bind λ(a,_)=>Y (bu (a>=0),())
def sG:m3->bw cH:=λ(a,_)=>bC (α:=gd) ((DB (a.1,0,200,())).bind λ(b,_)=>bz ((!b)==br) ((DB (a.2.1,0,200,())).bind λ(c,_)=>bz ((!c)==br) (Y (bu (ak a.2.2.2.1>10000),())) (Y (bp,()))) (Y (bp,()))) λ(f,_)=>(bz f (Y (6,())) ((Dz (a,())).bind λ(d,_)=>bz (!d) (Y (1,())) ((DC (a.2.2.2.2.1,(),())).bind λ(e,_)=>bz e (Y (4,())) (Y (0,())))))
def Eo:ny->bw (bg×bA×bt):=λ(h,a,_)=>(bif ak h !=a then Y ([],br,()) else((fj a a).bind λi=>(fj a a).bind λj=>(loop (σ:=(Z×bg×gp×bt)) (ρ:=(he⊕(bg×bA×bt))) (λ(f,e,g,_)=>bif bu (f<ak h) then(bC (α:=(bg×gp×bt)⊕((Z×bg×gp×bt)⊕(he⊕(bg×bA×bt)))) ((aj h f).bind λd=>bC (α:=(bg×gp×bt)⊕((bg×gp×bt)⊕((Z×bg×gp×bt)⊕(he⊕(bg×bA×bt))))) (bC (α:=(bA×bg×gp×bt)) (bz (bu (d<0)==br) (bz (bu (d>=a)==br) (rd g d λs=>Y (s,e,g,())) (Y (bp,e,g,()))) (Y (bp,e,g,()))) λ(o,k,p,_)=>bz o (Y (.inr (.inr (.inr (.inr ([],br,())))))) (Y (.inl (k,p,())))) λb=>match b with
 |.inl (l,q,_)=>(wr l d f λt=>wr q d bp λu=>Y (.inl (t,u,())))
 |.inr c=>Y c) λb=>match b with
 |.inl (m,r,_)=>(Y (.inl (aH f,m,r,())))
 |.inr c=>Y c) else Y (.inr (.inl (e,())))) (0,bJ i (0:Z),bJ j br,())).bind λb=>match b with
 |.inl (n,_)=>(Y (n,bp,()))
 |.inr c=>Y c))
def xE:m3->bw jR:=λ(b,_)=>(loop (σ:=oe) (ρ:=jR) (λ(a,e,_)=>bz (bu (a<b.2.1)) ((aj b.2.2.1 a).bind λj=>(loop (σ:=oe) (ρ:=jR) (λ(c,d,_)=>(aj b.2.2.1 (aH a)).bind λk=>bz (bu (c<k)) ((aj b.2.2.2.1 c).bind λf=>(aj b.2.2.2.2.1 c).bind λg=>(bh (d.length+([(f,(a,(g,())))]).length)).bind λ_=>Y (.inl (aH c,(d++[(f,(a,(g,())))]),()))) (Y (.inr (d,())))) (j,e,())).bind λ(h,_)=>Y (.inl (aH a,h,()))) (Y (.inr (e,())))) (0,[],())).bind λ(i,_)=>Y (i,())
def HR:jR->bw jR:=λ(a,_)=>rB a.length (Y ([],())) ((bh (([]:k9).length+a.length)).bind λ_=>Y (([]++a),()))
def xF:((Z×(Z×cH))×(Z×(Z×cH))×bt)->bw cH:=λ(a,b,_)=>(uQ (a.2.1,b.2.1,())).bind λ(c,_)=>(uQ (a.1,b.1,())).bind λ(aL,_)=>(CZ ([c,aL],())).bind λ(d,_)=>Y (d,())
def Aa:(k9×Z×Z×bt×bt)->bw jR:=λ(h,e,g,_,_)=>(loop (σ:=oe) (ρ:=jR) (λ(d,f,_)=>bif bu (d<g) then(loop (σ:=oe) (ρ:=jR) (λ(a,b,_)=>bC (α:=jR⊕(oe⊕jR)) (bz (bu (a>e)==bp) (rd b a λn=>rd b (au (a-1)) λo=>(xF (n,o,())).bind λ(m,_)=>bz (bu (m<0)) (Y (.inl (b,()))) (Y (.inr (.inr (b,()))))) (Y (.inr (.inr (b,()))))) λk=>match k with
 |.inl (c,_)=>(rd c (au (a-1)) λp=>rd c a λq=>wr c a p λr=>wr r (au (a-1)) q λs=>Y (.inl (au (a-1),s,())))
 |.inr l=>Y l) (d,f,())).bind λ(i,_)=>Y (.inl (aH d,i,())) else Y (.inr (f,()))) (aH e,h,())).bind λ(j,_)=>Y (j,())
def DN:UB->bw jR:=λ(h,e,a,g,_,_)=>(bz (au (a-e)==1) bq (bz (au (g-a)==1) ((loop (σ:=zt) (ρ:=oe) (λ(c,d,b,_)=>bz (bu (c<d)) ((eJ bE (aY (au (c+d))) 1).bind λf=>rd b a λo=>rd b (au f) λp=>(xF (o,p,())).bind λ(n,_)=>bz (!(bu (n<0))) (Y (.inl (aH (au f),d,b,()))) bq) (Y (.inr (c,b,())))) (e,a,h,())).bind λ(l,i,_)=>(loop (σ:=oe) (ρ:=jR) (λ(m,j,_)=>bz (bu (m>l)) bq (Y (.inr (j,())))) (a,i,())).bind λ(k,_)=>Y (k,())) bq))
def H0:(k9×Z×bt×bt)->bw jR:=λ(l,a,_,_)=>(loop (σ:=zt) (ρ:=oe) (λ(e,c,h,_)=>bz (bu (c<=a)) ((Aa (h,e,c,(),())).bind λ(s,_)=>Y (.inl (c,au (c+20),s,()))) (Y (.inr (e,h,())))) (0,20,l,())).bind λ(j,p,_)=>(Aa (p,j,a,(),())).bind λ(q,_)=>(loop (σ:=oe) (ρ:=jR) (λ(b,f,_)=>bz (bu (b<a)) ((loop (σ:=zt) (ρ:=oe) (λ(i,k,m,_)=>bz (bu (k<=a)) bq (Y (.inr (i,m,())))) (0,au (2*b),f,())).bind λ(d,g,_)=>bC (α:=jR) (bz (bu (au (d+b)<a)) ((DN (g,d,au (d+b),a,(),())).bind λ(r,_)=>Y (r,())) (Y (g,()))) λ(n,_)=>Y (.inl (au (b*2),n,()))) (Y (.inr (f,())))) (20,q,())).bind λ(o,_)=>
 Y (o,())
def HX:(k9×bt×bt)->bw jR:=λ(a,_,_)=>(H0 (a,ak a,(),())).bind λ(b,_)=>Y (b,())
def DA:jR->bw jR:=λ(a,_)=>(HR (a,())).bind λ(c,_)=>(HX (c,(),())).bind λ(b,_)=>Y (b,())
def Dy:zt->bw m3:=λ(s,e,o,_)=>(fj (aH e) (aH e)).bind λr=>(DA (o,())).bind λ(i,_)=>(loop (σ:=(Z×c0×c0×k9×bt)) (ρ:=(c0×c0×bt)) (λ(f,k,a,l,_)=>bz (bu (f<ak i)) (rd l f λc=>(bh ((a.2.2.2.1).length+([c.1]).length)).bind λ_=>(bh ((a.2.2.2.2.1).length+([c.2.2.1]).length)).bind λ_=>(bf (a.2.2.1).length (aH c.2.1)).bind λn=>(a8 a.2.2.1 n λm=>Y m).bind λu=>(bf (a.2.2.1).length (aH c.2.1)).bind λg=>((((a8 a.2.2.1 g λ_=>Y ((a.2.2.1).set g (aH u))).map λx=>(x,((a.2.2.2.1++[c.1]),((a.2.2.2.2.1++[c.2.2.1]),a.2.2.2.2.2)))).map λy=>(a.2.1,y)).map λz=>(a.1,z)).bind λA=>Y (.inl (aH f,k,A,l,()))) (Y (.inr (k,a,())))) (0,((0:Z),((0:Z),([],([],([],()))))),(s,(e,(bJ r (0:Z),(([]:bg),(([]:bg),()))))),i,())).bind λ(t,p,_)=>(loop (σ:=(Z×c0×c0×bt)) (ρ:=(c0×c0×bt)) (λ(d,j,b,_)=>
 bz (bu (d<e)) (rd b.2.2.1 (aH d) λv=>rd b.2.2.1 d λw=>(bf (b.2.2.1).length (aH d)).bind λh=>((((a8 b.2.2.1 h λ_=>Y ((b.2.2.1).set h (au (v+w)))).map λB=>(B,b.2.2.2)).map λC=>(b.2.1,C)).map λD=>(b.1,D)).bind λE=>Y (.inl (aH d,j,E,()))) (Y (.inr (j,b,())))) (0,t,p,())).bind λ(_,q,_)=>Y (q,())
def Dx:m3->bw (c0×Z×bt):=λ(a,_)=>(sG (a,())).bind λ(aL,_)=>(bz (aL !=0) (Y (((0:Z),((0:Z),(([]:bg),(([]:bg),(([]:bg),()))))),aL,())) ((xE (a,())).bind λ(g,_)=>(loop (σ:=(Z×c0×k9×k9×bt)) (ρ:=(c0×k9×bt)) (λ(d,e,b,f,_)=>bz (bu (d<ak g)) (bC (α:=(c0×k9×k9×bt)) (rd f d λc=>bz (bu (c.1>=c.2.1)) ((bh (b.length+([c]).length)).bind λ_=>Y (e,(b++[c]),f,())) (Y (e,b,f,()))) λ(k,h,l,_)=>Y (.inl (aH d,k,h,l,()))) (Y (.inr (e,b,())))) (0,((0:Z),((0:Z),([],([],([],()))))),[],g,())).bind λ(_,i,_)=>(Dy (a.1,a.2.1,i,())).bind λ(j,_)=>Y (j,0,())))
def Dw:m3->bw jR:=λ(a,_)=>(sG (a,())).bind λ(aL,_)=>(bz (aL !=0) (Y ([],())) ((xE (a,())).bind λ(b,_)=>Y (b,())))
def zT:m3->bw ((bn bg×bt)×Z×bt):=λ(a,_)=>(sG (a,())).bind λ(c,_)=>(bz (c !=0) (Y ((([]:bn bg),()),c,())) (bz (a.1 !=a.2.1) (Y ((([]:bn bg),()),5,())) ((zU (a.2.1,())).bind λ(j,_)=>(Dw (a,())).bind λ(aL,_)=>(loop (σ:=(Z×(bn bg×bt)×bn gp×k9×bt)) (ρ:=((bn bg×bt)×bn gp×bt)) (λ(b,d,e,f,_)=>bz (bu (b<ak aL)) (rd f b λg=>(zX (e,g.1,g.2.1,())).bind λ(h,_)=>Y (.inl (aH b,d,h,f,()))) (Y (.inr (d,e,())))) (0,([],()),j,aL,())).bind λ(_,k,_)=>(zW (k,())).bind λ(i,_)=>Y (i,0,()))))
def q5:(c0×bg×bt)->bw (bw qP×Z×bt):=λ(a,q,_)=>(sG (a,())).bind λ(r,_)=>(bif r !=0 then Y (bq,r,()) else bif a.1 !=a.2.1 then Y (bq,5,()) else(Eo (q,a.2.1,())).bind λ(s,D,_)=>bif !D then Y (bq,90,()) else(Dx (a,())).bind λ(E,_,_)=>(zT (E,())).bind λ(F,_,_)=>(zV (F,q,())).bind λ(G,_,_)=>(fj a.2.1 a.2.1).bind λp=>(loop (σ:=(Z×c0×qP×bt)) (ρ:=(c0×qP×bt)) (λ(j,k,c,_)=>bz (bu (j<ak (bJ p (bq:bw (bn (Z×eP)×X))))) ((bf (c.2.2.1).length j).bind λn=>((((a8 c.2.2.1 n λ_=>Y ((c.2.2.1).set n (Y ([],0)))).map λL=>(L,c.2.2.2)).map λM=>(c.2.1,M)).map λN=>(c.1,N)).bind λO=>Y (.inl (aH j,k,O,()))) (Y (.inr (k,c,())))) (0,a,(a.2.1,(G,(bJ p (bq:bw (bn (Z×eP)×X)),()))),())).bind λ(l,y,_)=>
 (loop (σ:=(Z×c0×qP×bt)) (ρ:=(qP×bt)) (λ(e,m,o,_)=>bif bu (e<l.2.1) then(aj m.2.2.1 e).bind λI=>(loop (σ:=(Z×c0×qP×bt)) (ρ:=(c0×qP×bt)) (λ(f,d,b,_)=>(aj d.2.2.1 (aH e)).bind λJ=>bz (bu (f<J)) (bC (α:=(c0×qP×bt)) ((aj d.2.2.2.1 f).bind λt=>bz (bu (t>=e)) ((aj s t).bind λg=>(aj s e).bind λh=>(bf (b.2.2.1).length (if h<g then h else g)).bind λi=>(aj d.2.2.2.2.1 f).bind λK=>(kP (K,())).bind λ(H,_)=>(a8 b.2.2.1 i λw=>Y w).bind λB=>(tp B (if h>g then h else g) H).bind λC=>((((a8 b.2.2.1 i λ_=>Y ((b.2.2.1).set i C)).map λP=>(P,b.2.2.2)).map λQ=>(b.2.1,Q)).map λR=>(b.1,R)).bind λS=>Y (d,S,())) (Y (d,b,()))) λ(u,z,_)=>Y (.inl (aH f,u,z,()))) (Y (.inr (d,b,())))) (I,m,o,())).bind λ(v,A,_)=>
 Y (.inl (aH e,v,A,())) else Y (.inr (o,()))) (0,l,y,())).bind λ(x,_)=>Y (Y x,0,()))
def p0:(bw qP×Z×Z×bt)->bw gg:=λ(c,a,b,_)=>c.bind λd=>(aj d.2.2.1 (if b<a then b else a)).bind λe=>Y (((gy (α:=eP) e (if b>a then b else a)).getD (br,((br,([],())),((0:Z),())))),())
def sH:mZ->bw cH:=λ(a,b,_)=>(iR (aY a) (aY b)).bind λc=>Y (au c,())
def u6:ny->bw cH:=λ(b,a,_)=>bC (α:=cH) (bz (bu (ak b>0)) ((sH (a,ak b,())).bind λ(e,_)=>(aj b e).bind λf=>Y (tW bE (aY (aY (aH a)*11400714819323198485)) f,())) (Y (aY (aY (aH a)*11400714819323198485),()))) λ(c,_)=>(eJ bE c 31).bind λd=>(eJ bE (aY (tW bE c d*13787848793156543929)) 29).bind λg=>Y (tW bE (aY (tW bE c d*13787848793156543929)) g,())
def H1:cH->bw cH:=λ(b,_)=>(iR b 19).bind λc=>(D4 (au (au c-9),0,())).bind λ(a,_)=>Y (a,())
def u4:mZ->bw cH:=λ(a,e,_)=>(sH (e,4,())).bind λ(b,_)=>(bz (b==1) ((eJ bE a 52).bind λf=>(h4 bE (aY (1019+eZ bE f 7)) 52).bind λg=>Y (gr bE (eZ bE a 9227875636482146303) g,())) (bz (b==2) ((eJ bE a 8).bind λh=>(iR h 81).bind λi=>(h4 bE (aY (983+i)) 52).bind λj=>Y (gr bE (eZ bE a 9225623836668461056) j,())) (bz (b==3) ((o8 (a,())).bind λ(d,_)=>bz (!d) (Y (0,())) (Y (a,()))) ((H1 (a,())).bind λ(c,_)=>Y (c,())))))
def u3:(bg×Z×Z×Z×bt)->bw m3:=λ(n,e,g,q,_)=>(loop (σ:=(Z×c0×c0×bt)) (ρ:=(c0×c0×bt)) (λ(d,k,h,_)=>bif bu (d<g) then(loop (σ:=(Z×c0×c0×bt)) (ρ:=(c0×c0×bt)) (λ(c,f,a,_)=>bz (bu (c<e)) (bC (α:=(c0×c0×bt)) ((u6 (n,au (au (100+au (d*e))+c),())).bind λ(i,_)=>(eJ bE i 40).bind λr=>(iR r 3).bind λs=>bz (bu (s>0)) ((bh ((a.2.2.2.1).length+([c]).length)).bind λ_=>(u4 (i,q,())).bind λ(j,_)=>(bh ((a.2.2.2.2.1).length+([j]).length)).bind λ_=>Y (f,(a.1,(a.2.1,(a.2.2.1,((a.2.2.2.1++[c]),((a.2.2.2.2.1++[j]),a.2.2.2.2.2))))),())) (Y (f,a,()))) λ(o,l,_)=>Y (.inl (aH c,o,l,()))) (Y (.inr (f,a,())))) (0,k,h,())).bind λ(p,b,_)=>(bh ((b.2.2.1).length+([ak b.2.2.2.1]).length)).bind λ_=>Y (.inl (aH d,p,(b.1,(b.2.1,((b.2.2.1++[ak b.2.2.2.1]),b.2.2.2))),())) else
 Y (.inr (k,h,()))) (0,((0:Z),((0:Z),([],([],([],()))))),(e,(g,([0],(([]:bg),(([]:bg),()))))),())).bind λ(_,m,_)=>Y (m,())
def D7:he->bw gd:=λ(b,_)=>(loop (σ:=cH) (ρ:=lY) (λ(a,_)=>bz (bu (a<ak b)) ((aj b a).bind λe=>(o8 (e,())).bind λ(aL,_)=>bz (!aL) (Y (.inr (.inr (br,())))) (Y (.inl (aH a,())))) (Y (.inr (.inl ())))) (0,())).bind λc=>match c with
 |.inl _=>(Y (bp,()))
 |.inr d=>Y d
def q1:m3->bw cH:=λ(a,_)=>bC (α:=bt⊕cH) (bz (bu (a.1<0)==br) (bz (bu (a.1>200)==br) (bz (bu (a.2.1<0)==br) (bz (bu (a.2.1>200)==br) (bz (bu (ak a.2.2.2.1>10000)) (Y (.inr (6,()))) (Y (.inl ()))) (Y (.inr (6,())))) (Y (.inr (6,())))) (Y (.inr (6,())))) (Y (.inr (6,())))) λb=>match b with
 |.inl _=>(bC (α:=bt⊕cH) (bz ((ak a.2.2.2.2.1 !=ak a.2.2.2.1)==br) (bz ((ak a.2.2.1 !=aH a.2.1)==br) ((aj a.2.2.1 0).bind λn=>bz ((n !=0)==br) ((aj a.2.2.1 a.2.1).bind λo=>bz (o !=ak a.2.2.2.1) (Y (.inr (1,()))) (Y (.inl ()))) (Y (.inr (1,())))) (Y (.inr (1,())))) (Y (.inr (1,())))) λb=>match b with
 |.inl _=>((loop (σ:=cH) (ρ:=nw) (λ(f,_)=>bz (bu (f<a.2.1)) ((aj a.2.2.1 f).bind λp=>(aj a.2.2.1 (aH f)).bind λq=>bz (bu (p>q)) (Y (.inr (.inr (1,())))) (Y (.inl (aH f,())))) (Y (.inr (.inl ())))) (0,())).bind λb=>match b with
 |.inl _=>((loop (σ:=cH) (ρ:=nw) (λ(e,_)=>bif bu (e<a.2.1) then((aj a.2.2.1 e).bind λr=>(loop (σ:=cH) (ρ:=(bt⊕(cH⊕nw))) (λ(d,_)=>(aj a.2.2.1 (aH e)).bind λh=>bif bu (d<h) then(bC (α:=bt⊕(cH⊕(bt⊕(cH⊕nw)))) ((aj a.2.2.2.1 d).bind λi=>bz (bu (i<0)==br) ((aj a.2.2.2.1 d).bind λj=>bz (bu (j>=a.1)==br) ((aj a.2.2.1 e).bind λk=>bz (bu (d>k)==bp) ((aj a.2.2.2.1 d).bind λl=>(aj a.2.2.2.1 (au (d-1))).bind λm=>bz (bu (l<=m)) (Y (.inr (.inr (.inr (.inr (.inr (1,()))))))) (Y (.inl ()))) (Y (.inl ()))) (Y (.inr (.inr (.inr (.inr (.inr (1,())))))))) (Y (.inr (.inr (.inr (.inr (.inr (1,())))))))) λb=>match b with
 |.inl _=>(Y (.inl (aH d,())))
 |.inr c=>Y c) else Y (.inr (.inl ()))) (r,())).bind λb=>match b with
 |.inl _=>(Y (.inl (aH e,())))
 |.inr c=>Y c) else Y (.inr (.inl ()))) (0,())).bind λb=>match b with
 |.inl _=>((D7 (a.2.2.2.2.1,())).bind λ(g,_)=>bz (!g) (Y (4,())) (Y (0,())))
 |.inr c=>Y c)
 |.inr c=>Y c)
 |.inr c=>Y c)
 |.inr c=>Y c
def sP:(c0×Z×Z×bt)->bw cH:=λ(a,f,b,_)=>bC (α:=bt⊕cH) ((q1 (a,())).bind λ(aL,_)=>bz ((aL !=0)==br) (bz (bu (b<0)==br) (bz (bu (b>=a.2.1)) (Y (.inr (0,()))) (Y (.inl ()))) (Y (.inr (0,())))) (Y (.inr (0,())))) λd=>match d with
 |.inl _=>((aj a.2.2.1 b).bind λg=>(loop (σ:=cH) (ρ:=nw) (λ(c,_)=>(aj a.2.2.1 (aH b)).bind λh=>bz (bu (c<h)) ((aj a.2.2.2.1 c).bind λi=>bz (i==f) ((aj a.2.2.2.2.1 c).bind λj=>Y (.inr (.inr (j,())))) (Y (.inl (aH c,())))) (Y (.inr (.inl ())))) (g,())).bind λd=>match d with
 |.inl _=>(Y (0,()))
 |.inr e=>Y e)
 |.inr e=>Y e
def An:(c0×Z×Z×bt)->bw gd:=λ(a,c,b,_)=>bC (α:=bt⊕gd) (bz (bu (c<0)==br) (bz (bu (c>=a.1)==br) (bz (bu (b<0)==br) (bz (bu (b>=a.2.1)) (Y (.inr (br,()))) (Y (.inl ()))) (Y (.inr (br,())))) (Y (.inr (br,())))) (Y (.inr (br,())))) λe=>match e with
 |.inl _=>((aj a.2.2.1 b).bind λg=>(loop (σ:=cH) (ρ:=lY) (λ(d,_)=>(aj a.2.2.1 (aH b)).bind λh=>bz (bu (d<h)) ((aj a.2.2.2.1 d).bind λi=>bz (i==c) (Y (.inr (.inr (bp,())))) (Y (.inl (aH d,())))) (Y (.inr (.inl ())))) (g,())).bind λe=>match e with
 |.inl _=>(Y (br,()))
 |.inr f=>Y f)
 |.inr f=>Y f
def Ab:(bg×Z×Z×bt)->bw m3:=λ(G,f,N,_)=>(sH (N,3,())).bind λ(aL,_)=>(u3 (G,f,f,aL,())).bind λ(F,_)=>(loop (σ:=(Z×c0×c0×c0×bt)) (ρ:=(c0×c0×bt)) (λ(h,r,w,n,_)=>bif bu (h<f) then(loop (σ:=(Z×c0×c0×c0×bt)) (ρ:=(c0×c0×c0×bt)) (λ(a,j,g,b,_)=>bif bu (a<f) then bC (α:=(c0×c0×c0×bt)) (bif a==h then(sM (1,())).bind λ(A,_)=>(loop (σ:=(Z×c0×c0×c0×mY×bt)) (ρ:=(c0×c0×c0×mY×bt)) (λ(d,m,i,l,k,_)=>bif bu (d<f) then bC (α:=(c0×c0×c0×mY×bt)) (bz (d !=a) ((sP (i,(if d>a then d else a),(if d<a then d else a),())).bind λ(B,_)=>(iV (B,())).bind λ(C,_)=>(xL (C,())).bind λ(o,_)=>(bh (k.length+([o]).length)).bind λ_=>Y (m,i,l,(k++[o]),())) (Y (m,i,l,k,()))) λ(H,s,x,I,_)=>
 Y (.inl (aH d,H,s,x,I,())) else Y (.inr (m,i,l,k,()))) (0,j,g,b,[A],())).bind λ(J,t,c,K,_)=>(bh ((c.2.2.2.1).length+([a]).length)).bind λ_=>(Aj (K,())).bind λ(D,_)=>(xN (D,2,())).bind λ(p,_)=>(bh ((c.2.2.2.2.1).length+([p]).length)).bind λ_=>Y (J,t,(c.1,(c.2.1,(c.2.2.1,((c.2.2.2.1++[a]),((c.2.2.2.2.1++[p]),c.2.2.2.2.2))))),()) else(An (g,a,h,())).bind λ(E,_)=>bz E ((bh ((b.2.2.2.1).length+([a]).length)).bind λ_=>(sP (g,a,h,())).bind λ(q,_)=>(bh ((b.2.2.2.2.1).length+([q]).length)).bind λ_=>Y (j,g,(b.1,(b.2.1,(b.2.2.1,((b.2.2.2.1++[a]),((b.2.2.2.2.1++[q]),b.2.2.2.2.2))))),())) (Y (j,g,b,()))) λ(L,u,y,_)=>Y (.inl (aH a,L,u,y,())) else Y (.inr (j,g,b,()))) (0,r,w,n,())).bind λ(M,v,e,_)=>(bh ((e.2.2.1).length+([ak e.2.2.2.1]).length)).bind λ_=>
 Y (.inl (aH h,M,v,(e.1,(e.2.1,((e.2.2.1++[ak e.2.2.2.1]),e.2.2.2))),())) else Y (.inr (r,n,()))) (0,((0:Z),((0:Z),([],([],([],()))))),F,(f,(f,([0],(([]:bg),(([]:bg),()))))),())).bind λ(_,z,_)=>Y (z,())
def Ac:ny->bw he:=λ(m,j,_)=>(loop (σ:=ny) (ρ:=he) (λ(a,c,_)=>bz (bu (c<j)) ((u6 (m,au (700+c),())).bind λ(l,_)=>(eJ bE l 1).bind λn=>(sH (au n,aH c,())).bind λ(i,_)=>((Y (0)).bind λg=>(fY i).bind λh=>(gZ g h a.length).map λ_=>(g,h)).bind λb=>(bh (([]:bg).length+((a.take b.2).drop b.1).length)).bind λ_=>(bh (([]++((a.take b.2).drop b.1)).length+([c]).length)).bind λ_=>((fY i).bind λe=>(Y a.length).bind λf=>(gZ e f a.length).map λ_=>(e,f)).bind λd=>(bh ((([]++((a.take b.2).drop b.1))++[c]).length+((a.take d.2).drop d.1).length)).bind λ_=>Y (.inl (((([]++((a.take b.2).drop b.1))++[c])++((a.take d.2).drop d.1)),aH c,()))) (Y (.inr (a,())))) ([],0,())).bind λ(k,_)=>Y (k,())
def Ax:ny->bw gd:=λ(b,c,_)=>(bif ak b !=c then Y (br,()) else((fj c c).bind λg=>(loop (σ:=(Z×gp×bt)) (ρ:=lY) (λ(a,f,_)=>bif bu (a<c) then(bC (α:=(gp×bt)⊕((Z×gp×bt)⊕lY)) (bC (α:=(gp×bt)⊕((gp×bt)⊕((Z×gp×bt)⊕lY))) ((aj b a).bind λl=>bz (bu (l<0)==br) ((aj b a).bind λm=>bz (bu (m>=c)==br) ((aj b a).bind λn=>rd f n λj=>bz j (Y (.inr (.inr (.inr (.inr (br,())))))) (Y (.inl (f,())))) (Y (.inr (.inr (.inr (.inr (br,()))))))) (Y (.inr (.inr (.inr (.inr (br,()))))))) λd=>match d with
 |.inl (h,_)=>((aj b a).bind λk=>wr h k bp λo=>Y (.inl (o,())))
 |.inr e=>Y e) λd=>match d with
 |.inl (i,_)=>(Y (.inl (aH a,i,())))
 |.inr e=>Y e) else Y (.inr (.inl ()))) (0,bJ g br,())).bind λd=>match d with
 |.inl _=>(Y (bp,()))
 |.inr e=>Y e))
def Ay:(c0×bg×bt)->bw cH:=λ(a,c,_)=>(q1 (a,())).bind λ(b,_)=>(bz (b !=0) (Y (b,())) (bz (a.1 !=a.2.1) (Y (5,())) ((Ax (c,a.1,())).bind λ(aL,_)=>bz (!aL) (Y (90,())) (Y (0,())))))
def Am:m3->bw jR:=λ(b,_)=>(q1 (b,())).bind λ(j,_)=>(bz (j !=0) (Y ([],())) ((loop (σ:=oe) (ρ:=jR) (λ(a,e,_)=>bz (bu (a<b.2.1)) ((aj b.2.2.1 a).bind λk=>(loop (σ:=oe) (ρ:=jR) (λ(c,d,_)=>(aj b.2.2.1 (aH a)).bind λl=>bz (bu (c<l)) ((aj b.2.2.2.1 c).bind λf=>(aj b.2.2.2.2.1 c).bind λg=>(bh (d.length+([(f,(a,(g,())))]).length)).bind λ_=>Y (.inl (aH c,(d++[(f,(a,(g,())))]),()))) (Y (.inr (d,())))) (k,e,())).bind λ(h,_)=>Y (.inl (aH a,h,()))) (Y (.inr (e,())))) (0,[],())).bind λ(i,_)=>Y (i,())))
def D8:zt->bw m3:=λ(c,g,h,_)=>(fj (au (c*g)) (au (c*g))).bind λy=>(loop (σ:=(Z×c0×c0×bg×bt)) (ρ:=(c0×c0×bg×bt)) (λ(e,o,m,k,_)=>bz (bu (e<ak h)) ((aj h e).bind λD=>(aj h e).bind λC=>wr k (au (au (D.2.1*c)+C.1)) (aH e) λE=>Y (.inl (aH e,o,m,E,()))) (Y (.inr (o,m,k,())))) (0,((0:Z),((0:Z),([],([],([],()))))),(c,(g,([0],(([]:bg),(([]:bg),()))))),bJ y (0:Z),())).bind λ(z,v,r,_)=>(loop (σ:=(Z×c0×c0×bg×bt)) (ρ:=(c0×c0×bt)) (λ(i,n,l,s,_)=>bif bu (i<g) then(loop (σ:=(Z×c0×c0×bg×bt)) (ρ:=(c0×c0×bg×bt)) (λ(d,j,a,f,_)=>bif bu (d<c) then bC (α:=(c0×c0×bg×bt)) (rd f (au (au (i*c)+d)) λp=>bif bu (p>0) then(bh ((a.2.2.2.1).length+([d]).length)).bind λ_=>(aj h (au (p-1))).bind λq=>
 (bh ((a.2.2.2.2.1).length+([q.2.2.1]).length)).bind λ_=>Y (j,(a.1,(a.2.1,(a.2.2.1,((a.2.2.2.1++[d]),((a.2.2.2.2.1++[q.2.2.1]),a.2.2.2.2.2))))),f,()) else Y (j,a,f,())) λ(A,w,t,_)=>Y (.inl (aH d,A,w,t,())) else Y (.inr (j,a,f,()))) (0,n,l,s,())).bind λ(B,b,u,_)=>(bh ((b.2.2.1).length+([ak b.2.2.2.1]).length)).bind λ_=>Y (.inl (aH i,B,(b.1,(b.2.1,((b.2.2.1++[ak b.2.2.2.1]),b.2.2.2))),u,())) else Y (.inr (n,l,()))) (0,z,v,r,())).bind λ(_,x,_)=>Y (x,())
def sQ:m3->bw (c0×Z×bt):=λ(b,_)=>(q1 (b,())).bind λ(aL,_)=>(bz (aL !=0) (Y (((0:Z),((0:Z),(([]:bg),(([]:bg),(([]:bg),()))))),aL,())) ((Am (b,())).bind λ(d,_)=>(loop (σ:=(Z×c0×k9×bt)) (ρ:=(c0×k9×bt)) (λ(a,e,c,_)=>bz (bu (a<ak d)) (bC (α:=(c0×k9×bt)) ((aj d a).bind λl=>(aj d a).bind λk=>bz (bu (l.1>=k.2.1)) ((aj d a).bind λf=>(bh (c.length+([f]).length)).bind λ_=>Y (e,(c++[f]),())) (Y (e,c,()))) λ(j,g,_)=>Y (.inl (aH a,j,g,()))) (Y (.inr (e,c,())))) (0,((0:Z),((0:Z),([],([],([],()))))),[],())).bind λ(_,h,_)=>(D8 (b.1,b.2.1,h,())).bind λ(i,_)=>Y (i,0,())))
def sR:m3->bw ((bn bg×bt)×Z×bt):=λ(a,_)=>(q1 (a,())).bind λ(g,_)=>(bz (g !=0) (Y ((([]:bn bg),()),g,())) (bz (a.1 !=a.2.1) (Y ((([]:bn bg),()),5,())) ((Aq (a.1,())).bind λ(l,_)=>(Am (a,())).bind λ(aL,_)=>(loop (σ:=(Z×(bn bg×bt)×bn gp×bt)) (ρ:=((bn bg×bt)×bn gp×bt)) (λ(c,h,b,_)=>bz (bu (c<ak aL)) ((aj aL c).bind λo=>(bf b.length o.1).bind λd=>(aj aL c).bind λn=>((a8 b d λi=>Y i).bind λj=>bf j.length n.2.1).bind λf=>(a8 b d λe=>(a8 e f λ_=>Y (e.set f bp)).map λp=>b.set d p).bind λq=>Y (.inl (aH c,h,q,()))) (Y (.inr (h,b,())))) (0,([],()),l,())).bind λ(_,m,_)=>(Ao (m,())).bind λ(k,_)=>Y (k,0,()))))
def Ee:(c0×bg×bt)->bw ((bn bg×bt)×bt):=λ(a,b,_)=>(sQ (a,())).bind λ(c,_,_)=>(sR (c,())).bind λ(d,_,_)=>(q2 (d,b,())).bind λ(e,_,_)=>Y (e,())
def vd:(c0×bg×Z×Z×bt)->bw gg:=λ(d,c,e,f,_)=>(aj c e).bind λa=>(aj c f).bind λb=>(sP (d,(if b>a then b else a),(if b<a then b else a),())).bind λ(g,_)=>(iV (g,())).bind λ(h,_)=>Y (h,())
def Aw:mZ->bw gg:=λ(a,b,_)=>(iV (a,())).bind λ(c,_)=>(iV (b,())).bind λ(aL,_)=>(jV (c,aL,())).bind λ(d,_)=>Y (d,())
def Ed:cH->bw gd:=λ(a,_)=>(bz ((a==0)==br) (Y ((a==9223372036854775808),())) (Y (bp,())))
def xP:jQ->bw cH:=λ(a,b,_)=>(D6 (a,b,0,())).bind λ(c,_)=>Y (c,())
def No:he->bw gd:=λ(a,_)=>(fj (ak a) (ak a)).bind λg=>(loop (σ:=(Z×gp×bt)) (ρ:=lY) (λ(e,f,_)=>bif bu (e<ak a) then(bC (α:=(gp×bt)⊕((Z×gp×bt)⊕lY)) ((aj a e).bind λd=>bC (α:=(gp×bt)⊕((gp×bt)⊕((Z×gp×bt)⊕lY))) (bz (bu (d<0)==br) (bz (bu (d>=ak a)==br) (rd f d λj=>bz j (Y (.inr (.inr (.inr (.inr (br,())))))) (Y (.inl (f,())))) (Y (.inr (.inr (.inr (.inr (br,()))))))) (Y (.inr (.inr (.inr (.inr (br,()))))))) λb=>match b with
 |.inl (i,_)=>(wr i d bp λk=>Y (.inl (k,())))
 |.inr c=>Y c) λb=>match b with
 |.inl (h,_)=>(Y (.inl (aH e,h,())))
 |.inr c=>Y c) else Y (.inr (.inl ()))) (0,bJ g br,())).bind λb=>match b with
 |.inl _=>(Y (bp,()))
 |.inr c=>Y c
def Ef:(bg×Z×Z×bt)->bw gd:=λ(a,c,f,_)=>bC (α:=bt⊕gd) (bz ((ak a !=aH c)==br) ((aj a 0).bind λg=>bz ((g !=0)==br) ((aj a c).bind λh=>bz (h !=f) (Y (.inr (br,()))) (Y (.inl ()))) (Y (.inr (br,())))) (Y (.inr (br,())))) λd=>match d with
 |.inl _=>((loop (σ:=cH) (ρ:=lY) (λ(b,_)=>bz (bu (b<c)) ((aj a b).bind λi=>(aj a (aH b)).bind λj=>bz (bu (i>j)) (Y (.inr (.inr (br,())))) (Y (.inl (aH b,())))) (Y (.inr (.inl ())))) (0,())).bind λd=>match d with
 |.inl _=>(Y (bp,()))
 |.inr e=>Y e)
 |.inr e=>Y e
def Av:mZ->bw (si×bt):=λ(b,a,_)=>(fj (au (b*a)) (au (b*a))).bind λc=>Y ((b,(a,(bJ c (br,((br,([],())),((0:Z),()))),()))),())
def uP:(c0×bg×bt)->bw Ma:=λ(j,m,_)=>(q5 (j,m,())).bind λ(b,f,_)=>(bz (f !=0) (Y (((0:Z),((0:Z),(([]:mY),()))),f,())) (b.bind λp=>bz (bu (p.1>64)) (Y (((0:Z),((0:Z),(([]:mY),()))),6,())) (b.bind λq=>b.bind λr=>b.bind λs=>(loop (σ:=CC) (ρ:=w2) (λ(c,h,e,_)=>bz (bu (c<s.1)) (b.bind λt=>(loop (σ:=CC) (ρ:=w2) (λ(d,i,a,_)=>bz (bu (d<t.1)) ((p0 (b,d,c,())).bind λ(n,_)=>(uT (n,())).bind λ(g,_)=>(bh ((a.2.2.1).length+([g]).length)).bind λ_=>Y (.inl (aH d,i,(a.1,(a.2.1,((a.2.2.1++[g]),a.2.2.2))),()))) (Y (.inr (i,a,())))) (0,h,e,())).bind λ(o,k,_)=>Y (.inl (aH c,o,k,()))) (Y (.inr (h,e,())))) (0,((0:Z),((0:Z),([],()))),(q.1,(r.1,(([]:mY),()))),())).bind λ(_,l,_)=>Y (l,0,()))))
def ve:(c0×bg×bt)->bw Ma:=λ(a,g,_)=>(Ay (a,g,())).bind λ(h,_)=>(bif h !=0 then Y (((0:Z),((0:Z),(([]:mY),()))),h,()) else bif bu (a.1>64) then Y (((0:Z),((0:Z),(([]:mY),()))),6,()) else(Av (a.1,a.1,())).bind λ(n,_)=>(loop (σ:=CC) (ρ:=w2) (λ(d,i,e,_)=>bz (bu (d<a.1)) ((loop (σ:=CC) (ρ:=w2) (λ(c,j,b,_)=>bz (bu (c<a.1)) ((vd (a,g,c,d,())).bind λ(m,_)=>(bf (b.2.2.1).length (au (au (d*a.1)+c))).bind λf=>((((a8 b.2.2.1 f λ_=>Y ((b.2.2.1).set f m)).map λp=>(p,b.2.2.2)).map λq=>(b.2.1,q)).map λr=>(b.1,r)).bind λs=>Y (.inl (aH c,j,s,()))) (Y (.inr (j,b,())))) (0,i,e,())).bind λ(o,k,_)=>Y (.inl (aH d,o,k,()))) (Y (.inr (i,e,())))) (0,((0:Z),((0:Z),([],()))),n,())).bind λ(_,l,_)=>
 Y (l,0,()))
def sS:jQ->bw gd:=λ(a,b,_)=>(DZ (a,b,())).bind λ(c,_,_)=>Y (bu (c<0),())
def H6:w2->bw gg:=λ(d,f,_)=>(loop (σ:=(Z×eP×eP×bt)) (ρ:=jQ) (λ(a,c,b,_)=>bz (bu (a<ak d.2.2.1)) (bC (α:=jQ) ((aj d.2.2.1 a).bind λl=>(aj f.2.2.1 a).bind λm=>(sN (l,m,())).bind λ(j,_)=>(xL (j,())).bind λ(e,_)=>(sS (b,e,())).bind λ(i,_)=>bz i (Y (c,e,())) (Y (c,b,()))) λ(k,g,_)=>Y (.inl (aH a,k,g,()))) (Y (.inr (c,b,())))) (0,(br,((br,([],())),((0:Z),()))),(br,((br,([],())),((0:Z),()))),())).bind λ(_,h,_)=>Y (h,())
def H4:kM->bw gd:=λ(b,c,_)=>(bif ak b !=ak c then Y (br,()) else((loop (σ:=cH) (ρ:=lY) (λ(a,_)=>bz (bu (a<ak b)) ((aj b a).bind λf=>(aj c a).bind λg=>bz (f !=g) (Y (.inr (.inr (br,())))) (Y (.inl (aH a,())))) (Y (.inr (.inl ())))) (0,())).bind λd=>match d with
 |.inl _=>(Y (bp,()))
 |.inr e=>Y e))
def H2:k8->bw gd:=λ(a,b,_)=>(bz ((a.1==b.1)==bp) ((H4 (a.2.1,b.2.1,())).bind λ(c,_)=>Y (c,())) (Y (br,())))
def H3:jQ->bw gd:=λ(a,b,_)=>(bz ((a.1==b.1)==bp) (bz ((a.2.2.1==b.2.2.1)==bp) ((H2 (a.2.1,b.2.1,())).bind λ(c,_)=>Y (c,())) (Y (br,()))) (Y (br,())))
def u5:jQ->bw gd:=λ(a,b,_)=>(ld (a,())).bind λ(c,_)=>(ld (b,())).bind λ(aL,_)=>(H3 (c,aL,())).bind λ(d,_)=>Y (d,())
def xH:w2->bw gd:=λ(a,b,_)=>bC (α:=bt⊕gd) (bz ((a.1 !=b.1)==br) (bz ((a.2.1 !=b.2.1)==br) (bz (ak a.2.2.1 !=ak b.2.2.1) (Y (.inr (br,()))) (Y (.inl ()))) (Y (.inr (br,())))) (Y (.inr (br,())))) λd=>match d with
 |.inl _=>((loop (σ:=cH) (ρ:=lY) (λ(c,_)=>bz (bu (c<ak a.2.2.1)) ((aj a.2.2.1 c).bind λg=>(aj b.2.2.1 c).bind λh=>(u5 (g,h,())).bind λ(f,_)=>bz (!f) (Y (.inr (.inr (br,())))) (Y (.inl (aH c,())))) (Y (.inr (.inl ())))) (0,())).bind λd=>match d with
 |.inl _=>(Y (bp,()))
 |.inr e=>Y e)
 |.inr e=>Y e
def xG:(c0×bg×bg×bt)->bw (iI×bt):=λ(O,eq,fr,_)=>(sQ (O,())).bind λ(aL,_,_)=>(sR (aL,())).bind λ(fn,_,_)=>(q2 (fn,eq,())).bind λ(fp,_,_)=>(At (fp,())).bind λ(h,_,_)=>(loop (σ:=(Z×iI×bn gp×bt)) (ρ:=kr) (λ(b,y,s,_)=>bif bu (b<ak h) then bC (α:=kr) (bC (α:=kr) (bC (α:=(bA×iI×bn gp×bt)) (bz ((b==0)==br) ((u6 (fr,au (900+b),())).bind λ(ex,_)=>(eJ bE ex 7).bind λf3=>(iR f3 3).bind λf4=>Y (bu (f4>0),y,s,())) (Y (bp,y,s,()))) λ(fs,z,t,_)=>bif fs then(bh (z.length+([(b,(aH b,(([]:bg),((-1:Z),()))))]).length)).bind λ_=>(fj (ak h) (ak h)).bind λN=>(bh (t.length+([bJ N br]).length)).bind λ_=>Y ((z++[(b,(aH b,(([]:bg),((-1:Z),()))))]),(t++[bJ N br]),()) else
 Y (z,t,())) λ(m,ci,_)=>(bf m.length (au (ak m-1))).bind λG=>(a8 m G λB=>Y (m.set G (B.1,(aH b,B.2.2)))).bind λgs=>(loop (σ:=(Z×iI×bn gp×bt)) (ρ:=kr) (λ(x,L,l,_)=>(aj h b).bind λf5=>bz (bu (x<ak f5)) ((bf l.length (au (ak m-1))).bind λw=>(aj h b).bind λf6=>(aj f6 x).bind λf7=>((a8 l w λT=>Y T).bind λU=>bf U.length f7).bind λH=>(a8 l w λC=>(a8 C H λ_=>Y (C.set H bp)).map λgt=>l.set w gt).bind λhc=>Y (.inl (aH x,L,hc,()))) (Y (.inr (L,l,())))) (0,gs,ci,())).bind λ(d9,co,_)=>Y (d9,co,())) λ(ek,cs,_)=>Y (.inl (aH b,ek,cs,())) else Y (.inr (y,s,()))) (0,[],[],())).bind λ(el,cv,_)=>(loop (σ:=(Z×iI×bn gp×bt)) (ρ:=(iI×bt)) (λ(a,n,c1,_)=>bif bu (a<ak n) then(bf n.length a).bind λds=>
 (a8 n ds λV=>Y V.1).bind λf8=>(loop (σ:=(Z×iI×bn gp×bt)) (ρ:=kr) (λ(c,d,f,_)=>bif bu (c<ak h) then bC (α:=kr) ((bf f.length a).bind λI=>((a8 f I λad=>Y ad).bind λam=>bf am.length c).bind λd0=>(a8 f I λan=>a8 an d0 λap=>Y ap).bind λf9=>bif !f9 then Y (d,f,()) else(bf d.length a).bind λJ=>(a8 d J λav=>Y av.2.2.1).bind λfT=>(bh (fT.length+([c]).length)).bind λ_=>(bf d.length a).bind λp=>bif bI J p&&bp then(a8 d p λa0=>Y a0.2.2.1).bind λf0=>(a8 d p λr=>Y (d.set p (r.1,(r.2.1,((f0++[c]),r.2.2.2))))).bind λi=>bC (α:=kr) (bC (α:=(bA×iI×bn gp×bt)) ((bf i.length a).bind λd1=>(a8 i d1 λa1=>Y a1.2.1).bind λgc=>bif bu (c>=gc)==bp then(bf i.length a).bind λd2=>(a8 i d2 λa3=>Y a3.2.2.2.1).bind λge=>
 Y (bu (ge<0),i,f,()) else Y (br,i,f,())) λ(ft,M,D,_)=>bz ft ((loop (σ:=(Z×iI×bn gp×bt)) (ρ:=kr) (λ(j,e,u,_)=>bz (bu (j<ak e)) (bC (α:=kr) (bC (α:=(bA×iI×bn gp×bt)) ((bf e.length j).bind λd3=>(a8 e d3 λa4=>Y a4.1).bind λgf=>bz (bu (c>=gf)==bp) ((bf e.length j).bind λd4=>(a8 e d4 λbl=>Y bl.2.1).bind λgi=>Y (bu (c<gi),e,u,())) (Y (br,e,u,()))) λ(fz,q,E,_)=>bz fz ((bf q.length a).bind λK=>(a8 q K λo=>Y (q.set K (o.1,(o.2.1,(o.2.2.1,(j,o.2.2.2.2)))))).bind λhi=>Y (hi,E,())) (Y (q,E,()))) λ(em,c2,_)=>Y (.inl (aH j,em,c2,()))) (Y (.inr (e,u,())))) (aH a,M,D,())).bind λ(d5,bs,_)=>Y (d5,bs,())) (Y (M,D,()))) λ(g,k,_)=>(bf g.length a).bind λdg=>
 (a8 g dg λP=>Y P.2.1).bind λf1=>bz (bu (c>=f1)) ((bf g.length a).bind λdl=>(a8 g dl λQ=>Y Q.2.2.2.1).bind λf2=>(bf k.length f2).bind λv=>((a8 k v λR=>Y R).bind λS=>bf S.length c).bind λF=>(a8 k v λA=>(a8 A F λ_=>Y (A.set F bp)).map λgl=>k.set v gl).bind λgo=>Y (g,go,())) (Y (g,k,())) else bq) λ(d6,bx,_)=>Y (.inl (aH c,d6,bx,())) else Y (.inr (d,f,()))) (f8,n,c1,())).bind λ(d7,ce,_)=>Y (.inl (aH a,d7,ce,())) else Y (.inr (n,()))) (0,el,cv,())).bind λ(d8,_)=>Y (d8,())
def NE:ny->bw cH:=λ(b,e,_)=>(loop (σ:=cH) (ρ:=nw) (λ(a,_)=>bz (bu (a<ak b)) ((aj b a).bind λf=>bz (e==f) (Y (.inr (.inr (a,())))) (Y (.inl (aH a,())))) (Y (.inr (.inl ())))) (0,())).bind λc=>match c with
 |.inl _=>(Y ((-1:Z),()))
 |.inr d=>Y d
def xQ:(c0×bg×iI×bt)->bw cH:=λ(c,d,b,_)=>(Ay (c,d,())).bind λ(aL,_)=>(bif aL !=0 then Y (aL,()) else(Ee (c,d,())).bind λ(h,_)=>(xO (h,b,())).bind λ(e,_)=>bif e !=0 then Y (e,()) else((loop (σ:=cH) (ρ:=nw) (λ(a,_)=>bz (bu (a<ak b)) ((aj b a).bind λi=>bz (bu (ak i.2.2.1>64)) (Y (.inr (.inr (6,())))) (Y (.inl (aH a,())))) (Y (.inr (.inl ())))) (0,())).bind λf=>match f with
 |.inl _=>(Y (0,()))
 |.inr g=>Y g))
abbrev aG:Type:=aj0
abbrev jP:Type:=(aG×bt)
abbrev L8:Type:=(bA×jP)
abbrev dc:Type:=es
abbrev cP:Type:=(bA×(L8×dc))
abbrev fm:Type:=(bn cP)
abbrev fo:Type:=(bn fm)
abbrev db:Type:=(aG×(Z×(fo×bt)))
abbrev cL:Type:=(aG×(aG×(aG×(aG×(aG×(aG×dc))))))
abbrev uC:Type:=ajW
abbrev dj:Type:=(aG×(Z×(uC×(fo×bt))))
abbrev hd:Type:=(aG×(aG×(aG×(bn aG×bt))))
abbrev gN:Type:=(Z×(Z×(fm×bt)))
abbrev mX:Type:=ep
abbrev jw:Type:=(Z×(Z×dc))
abbrev jx:Type:=er
abbrev eO:Type:=(aG×jP)
abbrev nt:Type:=(db×hd×db×hd×bt)
abbrev qM:Type:=(Z×db×hd×db×hd×bt)
abbrev nu:Type:=(db×db×bt)
abbrev w1:Type:=(eg⊕(mX⊕jx))
abbrev pO:Type:=(Z×(Z×(aG×dc)))
abbrev qN:Type:=(Z×cL×aG×cL×aG×aG×bt)
abbrev zr:Type:=(dc⊕(bt⊕(dc⊕(bt⊕jx))))
abbrev nv:Type:=(Z×(Z×(aG×eO)))
abbrev uD:Type:=(Z×cL×aG×cL×bt)
def DR:(aG×Z×Z×bA×bt)->bw (nv×aG×bn pO×bt):=λ(b,g,e,f,_)=>(sH (g,6,())).bind λ(a,_)=>(u3 (b,a,a,e,())).bind λ(i,_)=>bC (α:=(nv×nv×bt)) (bz f ((Ab (b,a,e,())).bind λ(j,_)=>Y (((0:Z),((0:Z),([],([],([],()))))),j,())) (Y (((0:Z),((0:Z),([],([],([],()))))),i,()))) λ(_,c,_)=>(Ac (b,a,())).bind λ(d,_)=>(xG (c,d,b,())).bind λ(h,_)=>Y (c,d,h,())
def Dr:(pO×bn (bw dj)×bt)->bw (aG×Z×bt):=λ(a,j,_)=>(loop (σ:=(Z×aG×bt)) (ρ:=jP) (λ(h,m,_)=>bz (bu (h<ak j)) ((aj j h).bind λi=>i.bind λt=>(loop (σ:=(Z×aG×bt)) (ρ:=jP) (λ(e,d,_)=>bz (bu (e<t.2.1)) (bC (α:=jP) (i.bind λu=>(aj u.2.2.1 e).bind λr=>bz r (i.bind λs=>(aj s.1 e).bind λn=>(bh (d.length+([n]).length)).bind λ_=>Y ((d++[n]),())) (Y (d,()))) λ(o,_)=>Y (.inl (aH e,o,()))) (Y (.inr (d,())))) (0,m,())).bind λ(p,_)=>Y (.inl (aH h,p,()))) (Y (.inr (m,())))) (0,[],())).bind λ(q,_)=>(loop (σ:=(Z×aG×bt)) (ρ:=jP) (λ(b,f,_)=>bz (bu (b<a.2.1)) ((bh (f.length+([b]).length)).bind λ_=>Y (.inl (aH b,(f++[b]),()))) (Y (.inr (f,())))) (a.1,q,())).bind λ(g,_)=>
 ((fY (au (a.2.1-a.1))).bind λk=>(Y ((a.2.2.1).length)).bind λl=>(gZ k l (a.2.2.1).length).map λ_=>(k,l)).bind λc=>(bh (g.length+(((a.2.2.1).take c.2).drop c.1).length)).bind λ_=>Y ((g++(((a.2.2.1).take c.2).drop c.1)),ak g,())
def Nu:(dj×bw dj×bt)->bw (dj×bt):=λ(H,c,_)=>c.bind λr=>(fj (ak r.1) (ak r.1)).bind λD=>c.bind λs=>(loop (σ:=(Z×dj×aG×bt)) (ρ:=(dj×aG×bt)) (λ(f,g,i,_)=>bz (bu (f<ak s.1)) (bC (α:=(dj×aG×bt)) ((aj s.1 f).bind λa0=>c.bind λN=>(aj N.2.2.1 f).bind λO=>bz O ((NE (g.1,a0,())).bind λ(E,_)=>wr i f E λa1=>Y (g,a1,())) (Y (g,i,()))) λ(I,t,_)=>Y (.inl (aH f,I,t,()))) (Y (.inr (g,i,())))) (0,H,bJ D (0:Z),())).bind λ(J,l,_)=>(loop (σ:=(Z×dj×aG×bt)) (ρ:=(dj×bt)) (λ(d,q,m,_)=>bif bu (d<ak l) then(loop (σ:=(Z×dj×aG×bt)) (ρ:=(dj×aG×bt)) (λ(e,k,h,_)=>bif bu (e<ak m) then bC (α:=(dj×aG×bt)) (bC (α:=(bA×dj×aG×bt)) (c.bind λP=>(aj P.2.2.1 d).bind λQ=>bif Q==bp then c.bind λR=>
 (aj R.2.2.1 e).bind λS=>Y (S,k,h,()) else Y (br,k,h,())) λ(G,a,b,_)=>bz G (rd b d λT=>(bf (a.2.2.2.1).length T).bind λj=>rd b e λU=>rd b d λV=>(bf (a.2.2.2.1).length V).bind λo=>rd b e λad=>((a8 a.2.2.2.1 o λw=>Y w).bind λx=>bf x.length ad).bind λC=>(a8 a.2.2.2.1 o λy=>a8 y C λz=>Y z).bind λam=>c.bind λan=>(aj an.2.2.2.1 d).bind λap=>(aj ap e).bind λav=>(zM (am,av,())).bind λ(F,_)=>((a8 a.2.2.2.1 j λA=>Y A).bind λB=>bf B.length U).bind λp=>(((((a8 a.2.2.2.1 j λn=>(a8 n p λ_=>Y (n.set p F)).map λa3=>(a.2.2.2.1).set j a3).map λa4=>(a4,a.2.2.2.2)).map λbl=>(a.2.2.1,bl)).map λbs=>(a.2.1,bs)).map λbx=>(a.1,bx)).bind λce=>Y (ce,b,())) (Y (a,b,()))) λ(K,u,_)=>Y (.inl (aH e,K,u,())) else
 Y (.inr (k,h,()))) (0,q,m,())).bind λ(L,v,_)=>Y (.inl (aH d,L,v,())) else Y (.inr (q,()))) (0,J,l,())).bind λ(M,_)=>Y (M,())
def Dn:(bw (Z×((bn aG×bt)×(bn (bw (bn (Z×cP)×X))×bt)))×pO×bn (bw dj)×bt)->bw (dj×Z×bt):=λ(w,k,j,_)=>(Dr (k,j,())).bind λ(aL,B,_)=>(bif bu (ak aL>64) then bq else(fj (ak aL) (ak aL)).bind λy=>(fj (ak aL) (ak aL)).bind λz=>(loop (σ:=(Z×dj×bt)) (ρ:=(dj×bt)) (λ(g,b,_)=>bz (bu (g<ak aL)) ((fj (ak aL) (ak aL)).bind λx=>(bf (b.2.2.1).length g).bind λo=>((((a8 b.2.2.1 o λ_=>Y ((b.2.2.1).set o bp)).map λL=>(L,b.2.2.2)).map λM=>(b.2.1,M)).map λN=>(b.1,N)).bind λc=>(bf (c.2.2.2.1).length g).bind λp=>(((((a8 c.2.2.2.1 p λ_=>Y ((c.2.2.2.1).set p (bJ x (br,((br,(([]:aj0),())),((0:Z),())))))).map λO=>(O,c.2.2.2.2)).map λP=>(c.2.2.1,P)).map λQ=>(c.2.1,Q)).map λR=>(c.1,R)).bind λS=>Y (.inl (aH g,S,()))) (Y (.inr (b,())))) (0,(aL,(B,(bJ y br,(bJ z [],())))),())).bind λ(D,_)=>
 (loop (σ:=(Z×dj×bt)) (ρ:=(dj×bt)) (λ(d,r,_)=>bif bu (d<ak aL) then(loop (σ:=(Z×dj×bt)) (ρ:=(dj×bt)) (λ(e,f,_)=>bif bu (e<ak aL) then bC (α:=(dj×bt)) (rd f.1 d λh=>rd f.1 e λi=>bC (α:=(bA×dj×bt)) (bz (bu ((if i<h then i else h)>=k.1)==bp) (Y (bu ((if i<h then i else h)<k.2.1),f,())) (Y (br,f,()))) λ(C,a,_)=>bz C ((bf (a.2.2.2.1).length d).bind λl=>rd a.1 d λI=>rd a.1 e λJ=>(p0 (w,I,J,())).bind λ(A,_)=>((a8 a.2.2.2.1 l λt=>Y t).bind λu=>bf u.length e).bind λq=>(((((a8 a.2.2.2.1 l λn=>(a8 n q λ_=>Y (n.set q A)).map λT=>(a.2.2.2.1).set l T).map λU=>(U,a.2.2.2.2)).map λV=>(a.2.2.1,V)).map λad=>(a.2.1,ad)).map λam=>(a.1,am)).bind λan=>Y (an,())) (Y (a,()))) λ(E,_)=>Y (.inl (aH e,E,())) else
 Y (.inr (f,()))) (0,r,())).bind λ(F,_)=>Y (.inl (aH d,F,())) else Y (.inr (r,()))) (0,D,())).bind λ(G,_)=>(loop (σ:=(Z×dj×bt)) (ρ:=(dj×bt)) (λ(m,s,_)=>bz (bu (m<ak j)) ((aj j m).bind λK=>(Nu (s,K,())).bind λ(v,_)=>Y (.inl (aH m,v,()))) (Y (.inr (s,())))) (0,G,())).bind λ(H,_)=>Y (H,0,()))
def HH:(cP×bt)->bw ((bA×(L8×(Z×jx)))×bt):=λ(a,_)=>(sy (a.2.1,())).bind λ(b,_)=>Y ((a.2.1.1,(b,(a.2.2.1,(br,())))),())
def uU:(cP×Z×bt)->bw dc:=λ(b,c,_)=>(uT (b,())).bind λ(a,_)=>(bz a.1 (Y (9221120237041090560,())) ((oo (a,())).bind λ(aL,_)=>bz (aL==0) (Y (0,())) ((HH (a,())).bind λ(d,_)=>(zR (d,c,())).bind λ(e,_)=>Y (e,()))))
def xz:(bw dj×Z×Z×bt)->bw dc:=λ(d,a,b,_)=>d.bind λe=>(aj e.2.2.2.1 a).bind λf=>(aj f b).bind λg=>(uU (g,0,())).bind λ(c,_)=>Y (c,())
def C7:jP->bw jx:=λ(b,_)=>(loop (σ:=dc) (ρ:=(bt⊕jx)) (λ(a,_)=>bz (bu (a<ak b)) ((aj b a).bind λe=>(C6 (e,())).bind λ(aL,_)=>bz (aL==3) (Y (.inr (.inr (bp,())))) (Y (.inl (aH a,())))) (Y (.inr (.inl ())))) (0,())).bind λc=>match c with
 |.inl _=>(Y (br,()))
 |.inr d=>Y d
def sx:dc->bw dc:=λ(a,_)=>(C7 ([a],())).bind λ(b,_)=>(bz b (Y (9221120237041090560,())) (Y (CF bE a 9223372036854775808,())))
def u0:(bw dj×Z×bt)->bw (cP×Z×Z×bt):=λ(h,i,_)=>(o7 (0,())).bind λ(t,_)=>h.bind λz=>(loop (σ:=(Z×Z×cP×cP×bt)) (ρ:=((Z×cP×cP×bt)⊕(cP×Z×Z×bt))) (λ(b,c,d,a,_)=>bif bu (c<ak z.1) then(bC (α:=(Z×cP×cP×bt)⊕((Z×Z×cP×cP×bt)⊕((Z×cP×cP×bt)⊕(cP×Z×Z×bt)))) (h.bind λA=>(aj A.2.2.1 c).bind λy=>bif !y then Y (.inl (b,d,a,())) else(xz (h,c,i,())).bind λ(g,_)=>(ou (g,())).bind λ(n,_)=>bif !n then Y (.inr (.inr (.inr (a,b,233,())))) else bif c==i then Y (.inl (b,d,a,())) else(sx (g,())).bind λ(o,_)=>(kP (o,())).bind λ(p,_)=>(uS (p,a,())).bind λ(q,_,_)=>bC (α:=(bA×cP×cP×bt)) (bz (bu (q>0)==br) (Y (bu (b<0),d,a,())) (Y (bp,d,a,()))) λ(w,j,k,_)=>
 bz w ((sx (g,())).bind λ(r,_)=>(kP (r,())).bind λ(s,_)=>Y (.inl (c,j,s,()))) (Y (.inl (b,j,k,())))) λe=>match e with
 |.inl (u,x,l,_)=>(Y (.inl (u,aH c,x,l,())))
 |.inr f=>Y f) else Y (.inr (.inl (b,d,a,())))) ((-1:Z),0,(br,((br,(([]:aj0),())),((0:Z),()))),t,())).bind λe=>match e with
 |.inl (v,_,m,_)=>(Y (m,v,0,()))
 |.inr f=>Y f
def uZ:(bw dj×Z×bt)->bw (cP×bt):=λ(d,a,_)=>(xz (d,a,a,())).bind λ(b,_)=>(sx (b,())).bind λ(aL,_)=>(kP (aL,())).bind λ(c,_)=>Y (c,())
def xA:(cP×cP×bt)->bw jx:=λ(a,b,_)=>(o7 (64,())).bind λ(c,_)=>(la (c,a,())).bind λ(aL,_)=>(o7 (41,())).bind λ(d,_)=>(la (d,b,())).bind λ(e,_)=>(uS (aL,e,())).bind λ(f,_,_)=>Y (bu (f>=0),())
def xy:(bw dj×bt)->bw (aG×Z×bt):=λ(b,_)=>b.bind λw=>(loop (σ:=dc) (ρ:=(bt⊕(aG×Z×bt))) (λ(a,_)=>bif bu (a<w.2.1) then(bC (α:=bt⊕(dc⊕(bt⊕(aG×Z×bt)))) (b.bind λx=>(aj x.2.2.1 a).bind λy=>bif !y then Y (.inl ()) else(u0 (b,a,())).bind λ(f,e,i,_)=>bif i !=0 then Y (.inr (.inr (.inr ([],i,())))) else((uZ (b,a,())).bind λ(g,_)=>bC (α:=(cP×cP×bt)⊕(bt⊕(dc⊕(bt⊕(aG×Z×bt))))) (bC (α:=(bA×cP×cP×bt)) ((oo (f,())).bind λ(o,_)=>bz ((o==0)==br) ((xA (g,f,())).bind λ(p,_)=>Y (p,f,g,())) (Y (bp,f,g,()))) λ(v,l,m,_)=>bz v (Y (.inr (.inr (.inr (.inr ([a],0,())))))) (Y (.inl (l,m,())))) λc=>match c with
 |.inl (h,n,_)=>(b.bind λz=>bz (bu (e>=z.2.1)) (Y (.inl ())) ((u0 (b,e,())).bind λ(j,_,k,_)=>bz (k !=0) (Y (.inr (.inr (.inr ([],k,()))))) ((la (n,j,())).bind λ(q,_)=>(la (h,h,())).bind λ(r,_)=>(xA (q,r,())).bind λ(s,_)=>bz s (Y (.inr (.inr (.inr ([a],0,()))))) ((uZ (b,e,())).bind λ(t,_)=>(xA (t,j,())).bind λ(u,_)=>bz u (Y (.inr (.inr (.inr ([e],0,()))))) (Y (.inr (.inr (.inr ([a,e],0,())))))))))
 |.inr d=>Y d)) λc=>match c with
 |.inl _=>(Y (.inl (aH a,())))
 |.inr d=>Y d) else Y (.inr (.inl ()))) (0,())).bind λc=>match c with
 |.inl _=>(Y ([],0,()))
 |.inr d=>Y d
def Dq:(bw dj×bt)->bw jP:=λ(c,_)=>c.bind λf=>(loop (σ:=(Z×aG×bt)) (ρ:=jP) (λ(a,b,_)=>bz (bu (a<ak f.1)) (bC (α:=jP) (c.bind λg=>(aj g.2.2.1 a).bind λh=>bz h ((bh (b.length+([a]).length)).bind λ_=>Y ((b++[a]),())) (Y (b,()))) λ(d,_)=>Y (.inl (aH a,d,()))) (Y (.inr (b,())))) (0,[],())).bind λ(e,_)=>Y (e,())
def qX:(fm×cP×bt)->bw (fm×bt):=λ(c,e,_)=>(loop (σ:=(Z×fm×bt)) (ρ:=(fm×bt)) (λ(b,a,_)=>bz (bu (b<ak c)) ((aj c b).bind λg=>(la (g,e,())).bind λ(d,_)=>(bh (a.length+([d]).length)).bind λ_=>Y (.inl (aH b,(a++[d]),()))) (Y (.inr (a,())))) (0,[],())).bind λ(f,_)=>Y (f,())
def qW:(dj×aG×fm×fm×bt)->bw (dj×bt):=λ(w,b,u,v,_)=>(loop (σ:=(Z×dj×bt)) (ρ:=(dj×bt)) (λ(c,i,_)=>bif bu (c<ak b) then(aj b c).bind λk=>(loop (σ:=(Z×dj×bt)) (ρ:=(dj×bt)) (λ(d,a,_)=>bif bu (d<ak b) then(aj b d).bind λj=>(bf (a.2.2.2.1).length k).bind λe=>(bf (a.2.2.2.1).length k).bind λg=>((a8 a.2.2.2.1 g λl=>Y l).bind λm=>bf m.length j).bind λr=>(a8 a.2.2.2.1 g λn=>a8 n r λo=>Y o).bind λz=>(aj u c).bind λA=>(aj v d).bind λB=>(la (A,B,())).bind λ(s,_)=>(sw (z,s,())).bind λ(t,_)=>((a8 a.2.2.2.1 e λp=>Y p).bind λq=>bf q.length j).bind λh=>(((((a8 a.2.2.2.1 e λf=>(a8 f h λ_=>Y (f.set h t)).map λC=>(a.2.2.2.1).set e C).map λD=>(D,a.2.2.2.2)).map λE=>(a.2.2.1,E)).map λF=>(a.2.1,F)).map λG=>(a.1,G)).bind λH=>
 Y (.inl (aH d,H,())) else Y (.inr (a,()))) (0,i,())).bind λ(x,_)=>Y (.inl (aH c,x,())) else Y (.inr (i,()))) (0,w,())).bind λ(y,_)=>Y (y,())
def NB:dc->bw (cP×bt):=λ(_,_)=>(o7 (0,())).bind λ(a,_)=>Y (a,())
def Nx:(bw dj×aG×bt×cP×bt)->bw (eO×fm×Z×bt):=λ(q,e,_,p,_)=>(loop (σ:=(Z×eO×eO×fm×bt)) (ρ:=((eO×eO×fm×bt)⊕(eO×fm×Z×bt))) (λ(d,g,a,c,_)=>bz (bu (d<ak e)) ((aj e d).bind λh=>(NB (h,())).bind λ(n,_)=>(zQ (n,p,0,())).bind λ(b,_)=>(ou (b,())).bind λ(o,_)=>bz (!o) (Y (.inr (.inr (a,[],233,())))) (q.bind λr=>(aj r.1 h).bind λi=>(bh ((a.1).length+([i]).length)).bind λ_=>(bh ((a.2.1).length+([b]).length)).bind λ_=>(kP (b,())).bind λ(f,_)=>(bh (c.length+([f]).length)).bind λ_=>Y (.inl (aH d,g,((a.1++[i]),((a.2.1++[b]),a.2.2)),(c++[f]),())))) (Y (.inr (.inl (g,a,c,()))))) (0,([],([],())),([],([],())),[],())).bind λl=>match l with
 |.inl (_,j,k,_)=>(Y (j,k,0,()))
 |.inr m=>Y m
def NA:(Z×bw (bw dj)×ajU×bt)->bw (cP×bt):=λ(a,b,c,_)=>b.bind λd=>d.bind λe=>(aj e.2.2.2.1 a).bind λf=>c.bind λg=>(aj f g).bind λh=>Y (h,())
def Ny:(bw dj×aG×(bw (bw dj)×ajU×bt)×cP×bt)->bw (eO×fm×Z×bt):=λ(r,e,f,q,_)=>(loop (σ:=(Z×eO×eO×fm×bt)) (ρ:=((eO×eO×fm×bt)⊕(eO×fm×Z×bt))) (λ(d,h,a,c,_)=>bz (bu (d<ak e)) ((aj e d).bind λi=>(NA (i,f.1,f.2.1,())).bind λ(o,_)=>(zQ (o,q,0,())).bind λ(b,_)=>(ou (b,())).bind λ(p,_)=>bz (!p) (Y (.inr (.inr (a,[],233,())))) (r.bind λs=>(aj s.1 i).bind λj=>(bh ((a.1).length+([j]).length)).bind λ_=>(bh ((a.2.1).length+([b]).length)).bind λ_=>(kP (b,())).bind λ(g,_)=>(bh (c.length+([g]).length)).bind λ_=>Y (.inl (aH d,h,((a.1++[j]),((a.2.1++[b]),a.2.2)),(c++[g]),())))) (Y (.inr (.inl (h,a,c,()))))) (0,([],([],())),([],([],())),[],())).bind λm=>match m with
 |.inl (_,k,l,_)=>(Y (k,l,0,()))
 |.inr n=>Y n
def sF:(fm×bt)->bw (cP×bt):=λ(a,_)=>(aj a 0).bind λd=>(aj a 2).bind λe=>(la (d,e,())).bind λ(aL,_)=>(aj a 1).bind λf=>(aj a 1).bind λg=>(la (f,g,())).bind λ(b,_)=>(sw (aL,b,())).bind λ(c,_)=>Y (c,())
def NC:(Z×Z×bw aG×bw eO×bt)->bw dc:=λ(c,d,a,b,_)=>a.bind λi=>b.bind λj=>(aj j.1 c).bind λk=>(aj i k).bind λl=>a.bind λm=>b.bind λf=>(aj f.1 d).bind λg=>(aj m g).bind λh=>(uQ (l,h,())).bind λ(e,_)=>Y (e,())
def HY:(aG×Z×Z×(bw aG×bw eO×bt)×bt)->bw jP:=λ(i,e,h,f,_)=>(loop (σ:=(Z×aG×bt)) (ρ:=jP) (λ(d,g,_)=>bif bu (d<h) then(loop (σ:=(Z×aG×bt)) (ρ:=jP) (λ(a,b,_)=>bC (α:=jP⊕((Z×aG×bt)⊕jP)) (bz (bu (a>e)==bp) (rd b a λo=>rd b (au (a-1)) λp=>(NC (o,p,f.1,f.2.1,())).bind λ(n,_)=>bz (bu (n<0)) (Y (.inl (b,()))) (Y (.inr (.inr (b,()))))) (Y (.inr (.inr (b,()))))) λl=>match l with
 |.inl (c,_)=>(rd c (au (a-1)) λq=>rd c a λr=>wr c a q λs=>wr s (au (a-1)) r λt=>Y (.inl (au (a-1),t,())))
 |.inr m=>Y m) (d,g,())).bind λ(j,_)=>Y (.inl (aH d,j,())) else Y (.inr (g,()))) (aH e,i,())).bind λ(k,_)=>Y (k,())
def HZ:(aG×Z×Z×Z×(bw aG×bw eO×bt)×bt)->bw jP:=λ(f,d,e,h,c,_)=>(loop (σ:=(Z×Z×Z×bA×bA×aG×bt)) (ρ:=jP) (λ(a,b,_,_,_,g,_)=>bz (bu (au (b-a)<=12)) ((HY (g,a,b,(c.1,c.2.1,()),())).bind λ(i,_)=>Y (.inr (i,()))) bq) (d,e,h,bp,bp,f,())).bind Y
def z8:(aG×(bw aG×bw eO×bt)×bt)->bw jP:=λ(a,b,_)=>(Du (aY (ak a),())).bind λ(d,_)=>(HZ (a,0,ak a,d,(b.1,b.2.1,()),())).bind λ(c,_)=>Y (c,())
def Ds:(bw (bw (Z×((bn aG×bt)×(bn (bw (bn (Z×cP)×X))×bt)))×(aG×(aG×(aG×(bn eO×dc)))))×aG×bt)->bw (cL×bt):=λ(c,i,_)=>(fj (ak i) (ak i)).bind λP=>c.bind λT=>c.bind λU=>c.bind λad=>c.bind λH=>(loop (σ:=uD) (ρ:=(cL×aG×cL×bt)) (λ(f,A,s,d,_)=>bz (bu (f<ak H.2.1)) ((aj H.2.1 f).bind λB=>wr s B f λam=>(aj i B).bind λC=>(bh ((d.1).length+([C]).length)).bind λ_=>Y (.inl (aH f,A,am,((d.1++[C]),d.2),()))) (Y (.inr (A,s,d,())))) (0,([],([],([],([],([],([],((0:Z),()))))))),bJ P (0:Z),(([]:aG),(T.2.2.1,(U.2.2.2.1,([0],(([]:aG),(([]:aG),(ad.2.2.2.2.2.1,()))))))),())).bind λ(Q,M,J,_)=>c.bind λD=>(loop (σ:=uD) (ρ:=(cL×cL×bt)) (λ(j,x,N,q,_)=>bif bu (j<ak D.2.2.2.2.1) then(aj D.2.2.2.2.1 j).bind λl=>(fj (ak l.1) (ak l.1)).bind λw=>
 (loop (σ:=(Z×cL×aG×cL×eO×aG×bt)) (ρ:=(cL×aG×cL×eO×aG×bt)) (λ(e,y,t,r,o,m,_)=>bz (bu (e<ak (bJ w (0:Z)))) (wr m e e λan=>Y (.inl (aH e,y,t,r,o,an,()))) (Y (.inr (y,t,r,o,m,())))) (0,x,N,q,l,bJ w (0:Z),())).bind λ(R,u,K,p,I,_)=>(z8 (I,(Y u,Y p,()),())).bind λ(v,_)=>(loop (σ:=(Z×cL×aG×cL×eO×aG×bt)) (ρ:=(cL×aG×cL×bt)) (λ(k,z,h,a,g,n,_)=>bif bu (k<ak v) then rd n k λE=>(aj g.1 E).bind λV=>rd h V λF=>(bh ((a.2.2.2.2.1).length+([F]).length)).bind λ_=>(aj g.2.1 E).bind λG=>(bh ((a.2.2.2.2.2.1).length+([G]).length)).bind λ_=>Y (.inl (aH k,z,h,(a.1,(a.2.1,(a.2.2.1,(a.2.2.2.1,((a.2.2.2.2.1++[F]),((a.2.2.2.2.2.1++[G]),a.2.2.2.2.2.2)))))),g,n,())) else
 Y (.inr (z,h,a,()))) (0,R,u,K,p,v,())).bind λ(S,O,b,_)=>(bh ((b.2.2.2.1).length+([ak b.2.2.2.2.1]).length)).bind λ_=>Y (.inl (aH j,S,O,(b.1,(b.2.1,(b.2.2.1,((b.2.2.2.1++[ak b.2.2.2.2.1]),b.2.2.2.2)))),())) else Y (.inr (x,q,()))) (0,Q,M,J,())).bind λ(_,L,_)=>Y (L,())
def Dm:(pO×bt)->bw jx:=λ(a,_)=>Y (bu (ak a.2.2.1>64),())
def DH:(bn pO×bt×bt)->bw dc:=λ(b,_,_)=>(loop (σ:=dc) (ρ:=(bt⊕dc)) (λ(a,_)=>bz (bu (a<ak b)) ((aj b a).bind λf=>(Dm (f,())).bind λ(e,_)=>bz e (Y (.inr (.inr (a,())))) (Y (.inl (aH a,())))) (Y (.inr (.inl ())))) (0,())).bind λc=>match c with
 |.inl _=>(Y ((-1:Z),()))
 |.inr d=>Y d
def DF:(bn pO×bt×bt)->bw jx:=λ(b,_,_)=>(DH (b,(),())).bind λ(a,_)=>Y (bu (a>=0),())
def q4:(aG×Z×bt)->bw dc:=λ(b,c,_)=>(loop (σ:=dc) (ρ:=(bt⊕dc)) (λ(a,_)=>bz (bu (a<ak b)) ((aj b a).bind λf=>bz (f==c) (Y (.inr (.inr (a,())))) (Y (.inl (aH a,())))) (Y (.inr (.inl ())))) (0,())).bind λd=>match d with
 |.inl _=>(Y ((-1:Z),()))
 |.inr e=>Y e
def Eh:(nv×aG×bn pO×Z×bn db×bt)->bw (db×bt):=λ(an,ce,c,b,y,_)=>(loop (σ:=(Z×db×db×bt)) (ρ:=nu) (λ(g,B,m,_)=>bz (bu (g<b)) (bC (α:=nu) ((aj c g).bind λgc=>bz (gc.2.2.2.1==b) ((aj y g).bind λF=>(aj y g).bind λfr=>((Y (0)).bind λL=>(fY fr.2.1).bind λM=>(gZ L M (F.1).length).map λ_=>(L,M)).bind λs=>(bh ((m.1).length+(((F.1).take s.2).drop s.1).length)).bind λ_=>Y (B,((m.1++(((F.1).take s.2).drop s.1)),m.2),())) (Y (B,m,()))) λ(c2,d9,_)=>Y (.inl (aH g,c2,d9,()))) (Y (.inr (B,m,())))) (0,([],((0:Z),([],()))),([],((0:Z),([],()))),())).bind λ(dg,ek,_)=>(aj c b).bind λft=>(loop (σ:=(Z×db×db×bt)) (ρ:=nu) (λ(q,Q,t,_)=>(aj c b).bind λfz=>bif bu (q<fz.2.1) then(bh ((t.1).length+([q]).length)).bind λ_=>Y (.inl (aH q,Q,((t.1++[q]),t.2),())) else
 Y (.inr (Q,t,()))) (ft.1,dg,ek,())).bind λ(dl,D,_)=>(loop (σ:=(Z×db×db×bt)) (ρ:=nu) (λ(o,z,j,_)=>(aj c b).bind λfT=>bz (bu (o<ak fT.2.2.1)) (bC (α:=nu) ((aj c b).bind λf0=>(aj f0.2.2.1 o).bind λf1=>(aj c b).bind λf2=>bz (bu (f1>=f2.2.1)) ((aj c b).bind λf3=>(aj f3.2.2.1 o).bind λad=>(bh ((j.1).length+([ad]).length)).bind λ_=>Y (z,((j.1++[ad]),j.2),())) (Y (z,j,()))) λ(ds,el,_)=>Y (.inl (aH o,ds,el,()))) (Y (.inr (z,j,())))) (0,dl,(D.1,(ak D.1,D.2.2)),())).bind λ(d0,k,_)=>(loop (σ:=(Z×db×db×bt)) (ρ:=nu) (λ(h,R,e,_)=>bif bu (h<ak k.1) then(fj (ak k.1) (ak k.1)).bind λN=>(bh ((e.2.2.1).length+([bJ N (br,((br,(([]:aj0),())),((0:Z),())))]).length)).bind λ_=>(loop (σ:=(Z×db×db×bt)) (ρ:=nu) (λ(i,A,l,_)=>bif bu (i<ak k.1) then
 bC (α:=nu) (rd l.1 h λu=>rd l.1 i λv=>bC (α:=(bA×db×db×bt)) ((aj c b).bind λf4=>bz (bu ((if v<u then v else u)>=f4.1)==bp) ((aj c b).bind λf5=>Y (bu ((if v<u then v else u)<f5.2.1),A,l,())) (Y (br,A,l,()))) λ(d1,S,d,_)=>bz d1 ((bf (d.2.2.1).length h).bind λw=>rd d.1 h λf6=>rd d.1 i λf7=>(vd (an,ce,f6,f7,())).bind λ(co,_)=>((a8 d.2.2.1 w λbl=>Y bl).bind λbs=>bf bs.length i).bind λK=>((((a8 d.2.2.1 w λH=>(a8 H K λ_=>Y (H.set K co)).map λhi=>(d.2.2.1).set w hi).map λhr=>(hr,d.2.2.2)).map λhs=>(d.2.1,hs)).map λhv=>(d.1,hv)).bind λhw=>Y (S,hw,())) (Y (S,d,()))) λ(d2,em,_)=>Y (.inl (aH i,d2,em,())) else Y (.inr (A,l,()))) (0,R,(e.1,(e.2.1,((e.2.2.1++[bJ N (br,((br,(([]:aj0),())),((0:Z),())))]),e.2.2.2))),())).bind λ(d3,eq,_)=>
 Y (.inl (aH h,d3,eq,())) else Y (.inr (R,e,()))) (0,d0,k,())).bind λ(d4,ex,_)=>(loop (σ:=(Z×db×db×bt)) (ρ:=nu) (λ(n,C,E,_)=>bif bu (n<b) then bC (α:=nu) ((aj c n).bind λf8=>bif f8.2.2.2.1 !=b then Y (C,E,()) else(aj y n).bind λf9=>(loop (σ:=(Z×db×db×db×bt)) (ρ:=nu) (λ(p,T,V,am,_)=>bif bu (p<ak am.1) then(loop (σ:=(Z×db×db×db×bt)) (ρ:=(db×db×db×bt)) (λ(r,U,a,f,_)=>bif bu (r<ak f.1) then(aj f.1 p).bind λge=>(q4 (a.1,ge,())).bind λ(O,_)=>(aj f.1 r).bind λgf=>(q4 (a.1,gf,())).bind λ(P,_)=>(bf (a.2.2.1).length O).bind λx=>(bf (a.2.2.1).length O).bind λI=>((a8 a.2.2.1 I λap=>Y ap).bind λav=>bf av.length P).bind λbx=>(a8 a.2.2.1 I λa0=>a8 a0 bx λa1=>Y a1).bind λfn=>(aj f.2.2.1 p).bind λfp=>(aj fp r).bind λfs=>
 (sK (fn,fs,())).bind λ(ci,_)=>((a8 a.2.2.1 x λa3=>Y a3).bind λa4=>bf a4.length P).bind λJ=>((((a8 a.2.2.1 x λG=>(a8 G J λ_=>Y (G.set J ci)).map λgl=>(a.2.2.1).set x gl).map λgo=>(go,a.2.2.2)).map λgs=>(a.2.1,gs)).map λgt=>(a.1,gt)).bind λhc=>Y (.inl (aH r,U,hc,f,())) else Y (.inr (U,a,f,()))) (0,T,V,am,())).bind λ(cs,d5,gi,_)=>Y (.inl (aH p,cs,d5,gi,())) else Y (.inr (T,V,()))) (0,C,E,f9,())).bind λ(cv,d6,_)=>Y (cv,d6,())) λ(c1,d7,_)=>Y (.inl (aH n,c1,d7,())) else Y (.inr (C,E,()))) (0,d4,ex,())).bind λ(_,d8,_)=>Y (d8,())
def vc:(cP×bt)->bw dc:=λ(a,_)=>(xN (a,0,())).bind λ(b,_)=>Y (b,())
def AA:(db×Z×bt)->bw (fm×bA×bt):=λ(e,f,_)=>(loop (σ:=(Z×fm×bt)) (ρ:=((fm×bt)⊕(fm×bA×bt))) (λ(a,b,_)=>bz (bu (a<ak e.1)) ((aj e.2.2.1 a).bind λl=>(aj l f).bind λm=>(vc (m,())).bind λ(c,_)=>(o8 (c,())).bind λ(i,_)=>bz (!i) (Y (.inr (.inr ([],br,())))) ((iV (c,())).bind λ(j,_)=>(xL (j,())).bind λ(d,_)=>(bh (b.length+([d]).length)).bind λ_=>Y (.inl (aH a,(b++[d]),())))) (Y (.inr (.inl (b,()))))) (0,[],())).bind λg=>match g with
 |.inl (k,_)=>(Y (k,bp,()))
 |.inr h=>Y h
def xT:(fm×Z×bt)->bw (cP×Z×bt):=λ(e,l,_)=>(loop (σ:=(Z×Z×cP×cP×bt)) (ρ:=(Z×cP×cP×bt)) (λ(d,a,c,b,_)=>bz (bu (a<ak e)) (bC (α:=(Z×cP×cP×bt)) (bC (α:=(bA×cP×cP×bt)) (bz ((a !=l)==bp) (bz (bu (d<0)==br) ((aj e a).bind λq=>(sS (b,q,())).bind λ(m,_)=>Y (m,c,b,())) (Y (bp,c,b,()))) (Y (br,c,b,()))) λ(o,f,i,_)=>bz o ((aj e a).bind λp=>Y (a,f,p,())) (Y (d,f,i,()))) λ(g,n,j,_)=>Y (.inl (g,aH a,n,j,()))) (Y (.inr (d,c,b,())))) ((-1:Z),0,(br,((br,(([]:aj0),())),((0:Z),()))),(br,((br,(([]:aj0),())),((0:Z),()))),())).bind λ(h,_,k,_)=>Y (k,h,())
def xU:(cP×cP×bt)->bw jx:=λ(a,b,_)=>(sM (64,())).bind λ(c,_)=>(jV (c,a,())).bind λ(aL,_)=>(sM (41,())).bind λ(d,_)=>(jV (d,b,())).bind λ(e,_)=>(sS (aL,e,())).bind λ(f,_)=>Y ((!f),())
def Az:(db×bt)->bw (aG×bA×bt):=λ(f,_)=>(loop (σ:=dc) (ρ:=(bt⊕(aG×bA×bt))) (λ(a,_)=>bif bu (a<f.2.1) then(bC (α:=bt⊕(dc⊕(bt⊕(aG×bA×bt)))) ((AA (f,a,())).bind λ(g,l,_)=>bif !l then Y (.inr (.inr (.inr ([],br,())))) else((xT (g,a,())).bind λ(e,b,_)=>bC (α:=(cP×bt)⊕(bt⊕(dc⊕(bt⊕(aG×bA×bt))))) (bC (α:=(bA×cP×bt)) ((u9 (e,())).bind λ(m,_)=>bz ((m==0)==br) ((aj g a).bind λu=>(xU (u,e,())).bind λ(n,_)=>Y (n,e,())) (Y (bp,e,()))) λ(t,k,_)=>bz t (Y (.inr (.inr (.inr (.inr ([a],bp,())))))) (Y (.inl (k,())))) λc=>match c with
 |.inl (h,_)=>(bz (bu (b>=f.2.1)) (Y (.inl ())) ((AA (f,b,())).bind λ(i,o,_)=>bz (!o) (Y (.inr (.inr (.inr ([],br,()))))) ((xT (i,b,())).bind λ(j,_,_)=>(aj g a).bind λv=>(jV (v,j,())).bind λ(p,_)=>(jV (h,h,())).bind λ(q,_)=>(xU (p,q,())).bind λ(r,_)=>bz r (Y (.inr (.inr (.inr ([a],bp,()))))) ((aj i b).bind λw=>(xU (w,j,())).bind λ(s,_)=>bz s (Y (.inr (.inr (.inr ([b],bp,()))))) (Y (.inr (.inr (.inr ([a,b],bp,())))))))))
 |.inr d=>Y d)) λc=>match c with
 |.inl _=>(Y (.inl (aH a,())))
 |.inr d=>Y d) else Y (.inr (.inl ()))) (0,())).bind λc=>match c with
 |.inl _=>(Y ([],bp,()))
 |.inr d=>Y d
def Ej:(db×aG×bt)->bw (db×bt):=λ(b,g,_)=>(loop (σ:=(Z×db×db×bt)) (ρ:=nu) (λ(a,h,d,_)=>bif bu (a<ak b.1) then bC (α:=nu) ((q4 (g,a,())).bind λ(o,_)=>bif bu (o>=0) then Y (h,d,()) else(aj b.1 a).bind λm=>(bh ((d.1).length+([m]).length)).bind λ_=>(loop (σ:=(Z×db×db×fm×bt)) (ρ:=(db×db×fm×bt)) (λ(e,i,j,f,_)=>bz (bu (e<ak b.1)) (bC (α:=(db×db×fm×bt)) ((q4 (g,e,())).bind λ(n,_)=>bz (bu (n<0)) ((aj b.2.2.1 a).bind λt=>(aj t e).bind λl=>(bh (f.length+([l]).length)).bind λ_=>Y (i,j,(f++[l]),())) (Y (i,j,f,()))) λ(q,u,p,_)=>Y (.inl (aH e,q,u,p,()))) (Y (.inr (i,j,f,())))) (0,h,((d.1++[m]),d.2),[],())).bind λ(r,c,k,_)=>(bh ((c.2.2.1).length+([k]).length)).bind λ_=>
 Y (r,(c.1,(c.2.1,((c.2.2.1++[k]),c.2.2.2))),())) λ(s,v,_)=>Y (.inl (aH a,s,v,())) else Y (.inr (h,d,()))) (0,([],((0:Z),([],()))),(([]:aG),(au (b.2.1-ak g),(([]:fo),()))),())).bind λ(_,w,_)=>Y (w,())
def sT:jP->bw (cP×bt):=λ(a,_)=>(aj a 0).bind λd=>(aj a 2).bind λe=>(Aw (d,e,())).bind λ(aL,_)=>(aj a 1).bind λf=>(aj a 1).bind λg=>(Aw (f,g,())).bind λ(b,_)=>(sN (aL,b,())).bind λ(c,_)=>Y (c,())
def vi:(hd×db×aG×Z×bt)->bw jP:=λ(a,f,b,d,_)=>(aj f.2.2.1 d).bind λC=>(aj b 0).bind λD=>(aj C D).bind λc=>(bif ak b==1 then(aj a.2.1 0).bind λE=>(Ed (E,())).bind λ(v,_)=>bz v (Y ([0],())) ((aj a.2.1 0).bind λw=>(iV (w,())).bind λ(h,_)=>(xP (c,h,())).bind λ(i,_)=>Y ([i],())) else(aj f.2.2.1 d).bind λx=>(aj b 1).bind λy=>(aj x y).bind λg=>(aj a.2.1 0).bind λz=>(iV (z,())).bind λ(j,_)=>(aj a.2.1 1).bind λA=>(iV (A,())).bind λ(e,_)=>(aj a.2.1 2).bind λB=>(iV (B,())).bind λ(k,_)=>(jV (c,k,())).bind λ(l,_)=>(jV (g,e,())).bind λ(m,_)=>(sN (l,m,())).bind λ(n,_)=>(jV (g,j,())).bind λ(o,_)=>(jV (c,e,())).bind λ(p,_)=>(sN (o,p,())).bind λ(q,_)=>
 (sT (a.2.1,())).bind λ(r,_)=>(xP (n,r,())).bind λ(s,_)=>(sT (a.2.1,())).bind λ(t,_)=>(xP (q,t,())).bind λ(u,_)=>Y ([s,u],()))
def vh:(hd×Z×Z×bt)->bw (cP×bt):=λ(a,b,c,_)=>(aj a.2.2.2.1 0).bind λD=>(aj D b).bind λE=>(iV (E,())).bind λ(h,_)=>(aj a.2.2.2.1 0).bind λF=>(aj F c).bind λG=>(iV (G,())).bind λ(i,_)=>(aj a.2.1 0).bind λw=>(iV (w,())).bind λ(j,_)=>(jV (h,j,())).bind λ(k,_)=>(jV (k,i,())).bind λ(d,_)=>bC (α:=(cP×cP×bt)) (bif ak a.1==2 then(aj a.2.2.2.1 1).bind λx=>(aj x b).bind λy=>(iV (y,())).bind λ(e,_)=>(aj a.2.2.2.1 1).bind λz=>(aj z c).bind λA=>(iV (A,())).bind λ(f,_)=>(aj a.2.1 1).bind λB=>(iV (B,())).bind λ(g,_)=>(aj a.2.1 2).bind λC=>(iV (C,())).bind λ(l,_)=>(jV (h,g,())).bind λ(m,_)=>(jV (m,f,())).bind λ(n,_)=>(sK (d,n,())).bind λ(o,_)=>(jV (e,g,())).bind λ(p,_)=>
 (jV (p,i,())).bind λ(q,_)=>(sK (o,q,())).bind λ(r,_)=>(jV (e,l,())).bind λ(s,_)=>(jV (s,f,())).bind λ(t,_)=>(sK (r,t,())).bind λ(u,_)=>Y ((br,((br,(([]:aj0),())),((0:Z),()))),u,()) else Y ((br,((br,(([]:aj0),())),((0:Z),()))),d,())) λ(_,v,_)=>Y (v,())
def xS:(db×aG×bt)->bw (db×hd×bA×bt):=λ(e,a,_)=>(Ej (e,a,())).bind λ(F,_)=>(loop (σ:=qM) (ρ:=nt) (λ(p,K,L,T,d,_)=>bz (bu (p<ak a)) ((aj a p).bind λfz=>(aj e.1 fz).bind λQ=>(bh ((d.1).length+([Q]).length)).bind λ_=>(bh ((d.2.2.2.1).length+([([]:aG)]).length)).bind λ_=>Y (.inl (aH p,K,L,T,((d.1++[Q]),(d.2.1,(d.2.2.1,((d.2.2.2.1++[([]:aG)]),d.2.2.2.2)))),()))) (Y (.inr (K,L,T,d,())))) (0,([],((0:Z),([],()))),([],([],([],([],())))),F,(([]:aG),(([]:aG),(F.1,(([]:bn aG),())))),())).bind λ(G,H,S,m,_)=>(aj a 0).bind λd7=>(aj e.2.2.1 d7).bind λd8=>(aj a 0).bind λd9=>(aj d8 d9).bind λek=>(vc (ek,())).bind λ(r,_)=>bC (α:=nt) (bif ak a==2 then(aj a 1).bind λel=>(aj e.2.2.1 el).bind λem=>(aj a 0).bind λeq=>(aj em eq).bind λex=>(vc (ex,())).bind λ(D,_)=>
 (aj a 1).bind λfn=>(aj e.2.2.1 fn).bind λfp=>(aj a 1).bind λfr=>(aj fp fr).bind λfs=>(vc (fs,())).bind λ(E,_)=>(bh (([r]).length+([D,E]).length)).bind λ_=>Y (G,H,S,(m.1,(([r]++[D,E]),m.2.2)),()) else Y (G,H,S,(m.1,([r],m.2.2)),())) λ(dg,dl,f2,bl,_)=>(loop (σ:=qM) (ρ:=(nt⊕(db×hd×bA×bt))) (λ(k,t,u,v,n,_)=>bif bu (k<ak e.1) then(bC (α:=nt⊕(qM⊕(nt⊕(db×hd×bA×bt)))) ((q4 (a,k,())).bind λ(ci,_)=>bif bu (ci>=0) then Y (.inl (t,u,v,n,())) else((vi (n,e,a,k,())).bind λ(s,_)=>(loop (σ:=qM) (ρ:=(nt⊕(nt⊕(qM⊕(nt⊕(db×hd×bA×bt)))))) (λ(f,I,J,w,b,_)=>bif bu (f<ak s) then(aj s f).bind λft=>(o8 (ft,())).bind λ(co,_)=>bif !co then Y (.inr (.inr (.inr (.inr (.inr (w,b,br,())))))) else(bf (b.2.2.2.1).length f).bind λz=>
 (aj s f).bind λR=>(a8 b.2.2.2.1 z λU=>Y U).bind λd5=>(bh (d5.length+([R]).length)).bind λ_=>(bf (b.2.2.2.1).length f).bind λl=>bz (bI z l&&bp) ((a8 b.2.2.2.1 l λV=>Y V).bind λd6=>(((((a8 b.2.2.2.1 l λ_=>Y ((b.2.2.2.1).set l (d6++[R]))).map λge=>(ge,b.2.2.2.2)).map λgf=>(b.2.2.1,gf)).map λgi=>(b.2.1,gi)).map λgl=>(b.1,gl)).bind λgo=>Y (.inl (aH f,I,J,w,go,()))) bq else Y (.inr (.inl (I,J,w,b,())))) (0,t,u,v,n,())).bind λi=>match i with
 |.inl (ds,d0,f3,bs,_)=>(Y (.inl (ds,d0,f3,bs,())))
 |.inr j=>Y j)) λi=>match i with
 |.inl (d1,d2,f4,bx,_)=>(Y (.inl (aH k,d1,d2,f4,bx,())))
 |.inr j=>Y j) else Y (.inr (.inl (t,u,v,n,())))) (0,dg,dl,f2,bl,())).bind λi=>match i with
 |.inl (d3,d4,f5,ce,_)=>((loop (σ:=qM) (ρ:=nt) (λ(g,M,N,x,C,_)=>bif bu (g<ak x.1) then(loop (σ:=qM) (ρ:=nt) (λ(h,O,P,c,q,_)=>bz (bu (h<ak c.1)) ((bf (c.2.2.1).length g).bind λo=>(bf (c.2.2.1).length g).bind λA=>((a8 c.2.2.1 A λad=>Y ad).bind λam=>bf am.length h).bind λa1=>(a8 c.2.2.1 A λan=>a8 an a1 λap=>Y ap).bind λfT=>(vh (q,g,h,())).bind λ(cs,_)=>(sN (fT,cs,())).bind λ(cv,_)=>((a8 c.2.2.1 o λav=>Y av).bind λa0=>bf a0.length h).bind λB=>((((a8 c.2.2.1 o λy=>(a8 y B λ_=>Y (y.set B cv)).map λf6=>(c.2.2.1).set o f6).map λf7=>(f7,c.2.2.2)).map λf8=>(c.2.1,f8)).map λf9=>(c.1,f9)).bind λgc=>Y (.inl (aH h,O,P,gc,q,()))) (Y (.inr (O,P,c,q,())))) (0,M,N,x,C,())).bind λ(c1,c2,f0,a3,_)=>
 Y (.inl (aH g,c1,c2,f0,a3,())) else Y (.inr (M,N,x,C,()))) (0,d3,d4,f5,ce,())).bind λ(_,_,f1,a4,_)=>Y (f1,a4,bp,()))
 |.inr j=>Y j
def Ei:(aG×bn hd×Z×bt)->bw (cL×bt):=λ(x,c,a0,_)=>(fj (ak x) (ak x)).bind λdg=>(loop (σ:=uD) (ρ:=(cL×aG×cL×bt)) (λ(g,U,G,E,_)=>bif bu (g<ak c) then(loop (σ:=uD) (ρ:=(cL×aG×cL×bt)) (λ(p,V,H,k,_)=>(aj c g).bind λex=>bz (bu (p<ak ex.1)) ((aj c g).bind λfn=>(aj fn.1 p).bind λfp=>wr H fp (ak k.1) λft=>(aj c g).bind λfr=>(aj fr.1 p).bind λfs=>(aj x fs).bind λan=>(bh ((k.1).length+([an]).length)).bind λ_=>Y (.inl (aH p,V,ft,((k.1++[an]),k.2),()))) (Y (.inr (V,H,k,())))) (0,U,G,E,())).bind λ(d4,cv,i,_)=>(aj c g).bind λap=>(bh ((i.2.1).length+([ak ap.1]).length)).bind λ_=>(aj c g).bind λav=>(bh ((i.2.2.1).length+(av.2.1).length)).bind λ_=>Y (.inl (aH g,d4,cv,(i.1,((i.2.1++[ak ap.1]),((i.2.2.1++av.2.1),i.2.2.2))),())) else
 Y (.inr (U,G,E,()))) (0,([],([],([],([],([],([],((0:Z),()))))))),bJ dg (0:Z),(([]:aG),(([]:aG),(([]:aG),([0],(([]:aG),(([]:aG),(a0,()))))))),())).bind λ(d5,c1,bs,_)=>(loop (σ:=uD) (ρ:=(cL×cL×bt)) (λ(h,R,bx,B,_)=>bif bu (h<ak c) then(loop (σ:=uD) (ρ:=(cL×aG×cL×bt)) (λ(w,S,F,C,_)=>(aj c h).bind λd7=>bif bu (w<ak d7.1) then(loop (σ:=qN) (ρ:=(cL×aG×cL×aG×aG×bt)) (λ(n,T,u,D,I,ad,_)=>(aj c h).bind λd8=>bif bu (n<ak d8.2.2.1) then(aj c h).bind λd9=>(aj d9.2.2.1 n).bind λek=>rd u ek λs=>(loop (σ:=qN) (ρ:=qN) (λ(j,y,v,t,l,z,_)=>bC (α:=(cL×aG×cL×aG×aG×bt)⊕(qN⊕qN)) (bif bu (j<ak l)==bp then rd l j λel=>bif bu (el<s) then Y (.inl (y,v,t,l,z,())) else
 Y (.inr (.inr (j,y,v,t,l,z,()))) else Y (.inr (.inr (j,y,v,t,l,z,())))) λdl=>match dl with
 |.inl (d0,ce,a1,c2,d6,_)=>(Y (.inl (aH j,d0,ce,a1,c2,d6,())))
 |.inr ds=>Y ds) (0,T,u,D,I,ad,())).bind λ(m,d1,ci,a3,b,d,_)=>((Y (0)).bind λJ=>(fY m).bind λK=>(gZ J K b.length).bind λ_=>(oI b.length).map λ_=>(J,K)).bind λe=>(bh (([]:aG).length+((b.take e.2).drop e.1).length)).bind λ_=>(bh (([]++((b.take e.2).drop e.1)).length+([s]).length)).bind λ_=>((fY m).bind λL=>(Y b.length).bind λM=>(gZ L M b.length).bind λ_=>(oI b.length).map λ_=>(L,M)).bind λq=>(bh ((([]++((b.take e.2).drop e.1))++[s]).length+((b.take q.2).drop q.1).length)).bind λ_=>((Y (0)).bind λN=>(fY m).bind λO=>(gZ N O d.length).bind λ_=>(oI d.length).map λ_=>(N,O)).bind λf=>(bh (([]:aG).length+((d.take f.2).drop f.1).length)).bind λ_=>(aj c h).bind λem=>(aj em.2.2.2.1 w).bind λeq=>(aj eq n).bind λA=>
 (bh (([]++((d.take f.2).drop f.1)).length+([A]).length)).bind λ_=>((fY m).bind λP=>(Y d.length).bind λQ=>(gZ P Q d.length).bind λ_=>(oI d.length).map λ_=>(P,Q)).bind λr=>(bh ((([]++((d.take f.2).drop f.1))++[A]).length+((d.take r.2).drop r.1).length)).bind λ_=>Y (.inl (aH n,d1,ci,a3,((([]++((b.take e.2).drop e.1))++[s])++((b.take q.2).drop q.1)),((([]++((d.take f.2).drop f.1))++[A])++((d.take r.2).drop r.1)),())) else Y (.inr (T,u,D,I,ad,()))) (0,S,F,C,[],[],())).bind λ(d2,co,a,o,am,_)=>(bh ((a.2.2.2.2.1).length+o.length)).bind λ_=>(bh ((a.2.2.2.2.2.1).length+am.length)).bind λ_=>(bh ((a.2.2.2.1).length+([ak (a.2.2.2.2.1++o)]).length)).bind λ_=>Y (.inl (aH w,d2,co,(a.1,(a.2.1,(a.2.2.1,((a.2.2.2.1++[ak (a.2.2.2.2.1++o)]),((a.2.2.2.2.1++o),((a.2.2.2.2.2.1++am),a.2.2.2.2.2.2)))))),())) else
 Y (.inr (S,F,C,()))) (0,R,bx,B,())).bind λ(d3,cs,a4,_)=>Y (.inl (aH h,d3,cs,a4,())) else Y (.inr (R,B,()))) (0,d5,c1,bs,())).bind λ(_,bl,_)=>Y (bl,())
def vf:(nv×aG×bn pO×bt)->bw (cL×Z×bt):=λ(n,g,d,_)=>(xQ (n,g,d,())).bind λ(A,_)=>(bif A !=0 then Y ((([]:aG),(([]:aG),(([]:aG),(([]:aG),(([]:aG),(([]:aG),((0:Z),()))))))),A,()) else((loop (σ:=(Z×bA×Z×cL×bn db×bn hd×bt)) (ρ:=((Z×cL×bn hd×bt)⊕(cL×Z×bt))) (λ(o,F,c,B,p,u,_)=>bif bu (c<ak d) then(Eh (n,g,d,c,p,())).bind λ(w,_)=>bif bu (ak w.1>64) then Y (.inr (.inr ((([]:aG),(([]:aG),(([]:aG),(([]:aG),(([]:aG),(([]:aG),((0:Z),()))))))),6,()))) else(loop (σ:=(bA×cL×bn db×bn hd×db×bt)) (ρ:=(bA×cL×bn db×bn hd×db×bt)) (λ(h,k,e,i,a,_)=>bif !h then(Az (a,())).bind λ(x,K,_)=>bC (α:=(bA×cL×bn db×bn hd×db×bt)) (bif !K then Y (bp,k,e,i,a,()) else
 Y (h,k,e,i,a,())) λ(r,l,f,j,b,_)=>bz (ak x==0) (Y (.inr (r,l,f,j,b,()))) ((xS (b,x,())).bind λ(y,z,L,_)=>bC (α:=(bA×cL×bn db×bn hd×db×db×hd×bt)) (bz (!L) (Y (bp,l,f,j,b,y,z,())) (Y (r,l,f,j,b,y,z,()))) λ(E,N,D,v,_,P,t,_)=>(bh (v.length+([t]).length)).bind λ_=>Y (.inl (E,N,D,(v++[t]),P,()))) else Y (.inr (h,k,e,i,a,()))) (F,B,p,u,w,())).bind λ(s,O,q,G,m,_)=>bz s (Y (.inr (.inr ((([]:aG),(([]:aG),(([]:aG),(([]:aG),(([]:aG),(([]:aG),((0:Z),()))))))),233,())))) ((bh (q.length+([m]).length)).bind λ_=>Y (.inl (au (o+m.2.1),s,aH c,O,(q++[m]),G,()))) else
 Y (.inr (.inl (o,B,u,())))) (0,br,0,([],([],([],([],([],([],((0:Z),()))))))),[],[],())).bind λI=>match I with
 |.inl (C,_,H,_)=>((Ei (g,H,C,())).bind λ(M,_)=>Y (M,0,()))
 |.inr J=>Y J))
def NF:bt->bw (nv×bt):=λ_=>Y ((2,(2,([0,1,1],([1],([4607182418800017408],()))))),())
def HN:jP->bw jx:=λ(a,_)=>(fj (ak a) (ak a)).bind λg=>(loop (σ:=(Z×uC×bt)) (ρ:=(bt⊕jx)) (λ(e,f,_)=>bif bu (e<ak a) then(bC (α:=(uC×bt)⊕((Z×uC×bt)⊕(bt⊕jx))) ((aj a e).bind λd=>bC (α:=(uC×bt)⊕((uC×bt)⊕((Z×uC×bt)⊕(bt⊕jx)))) (bz (bu (d<0)==br) (bz (bu (d>=ak a)==br) (rd f d λj=>bz j (Y (.inr (.inr (.inr (.inr (br,())))))) (Y (.inl (f,())))) (Y (.inr (.inr (.inr (.inr (br,()))))))) (Y (.inr (.inr (.inr (.inr (br,()))))))) λb=>match b with
 |.inl (i,_)=>(wr i d bp λk=>Y (.inl (k,())))
 |.inr c=>Y c) λb=>match b with
 |.inl (h,_)=>(Y (.inl (aH e,h,())))
 |.inr c=>Y c) else Y (.inr (.inl ()))) (0,bJ g br,())).bind λb=>match b with
 |.inl _=>(Y (bp,()))
 |.inr c=>Y c
def z5:(cL×bt)->bw (aG×bA×bt):=λ(b,_)=>(loop (σ:=(Z×Z×Z×aG×bt)) (ρ:=((Z×Z×aG×bt)⊕(aG×bA×bt))) (λ(a,h,g,e,_)=>bif bu (g<ak b.2.1) then(bC (α:=(Z×Z×aG×bt)⊕((Z×Z×Z×aG×bt)⊕((Z×Z×aG×bt)⊕(aG×bA×bt)))) ((aj b.2.1 g).bind λf=>bC (α:=jP⊕((Z×Z×aG×bt)⊕((Z×Z×Z×aG×bt)⊕((Z×Z×aG×bt)⊕(aG×bA×bt))))) (bC (α:=(bA×aG×bt)) (bz ((f !=1)==bp) (bz ((f !=2)==br) (Y (bu (a>=ak b.1),e,())) (Y (bp,e,()))) (Y (bu (a>=ak b.1),e,()))) λ(q,o,_)=>bz q (Y (.inr (.inr (.inr (.inr ([],br,())))))) (Y (.inl (o,())))) λc=>match c with
 |.inl (i,_)=>((bh (i.length+([a]).length)).bind λ_=>Y (.inl (au (a+f),au (h+au (au (2*f)-1)),(i++[a]),())))
 |.inr d=>Y d) λc=>match c with
 |.inl (k,m,p,_)=>(Y (.inl (k,m,aH g,p,())))
 |.inr d=>Y d) else Y (.inr (.inl (a,h,e,())))) (0,0,0,[],())).bind λc=>match c with
 |.inl (l,n,j,_)=>(bz ((l==ak b.1)==bp) (Y (j,(n==ak b.2.2.1),())) (Y (j,br,())))
 |.inr d=>Y d
def Do:(cL×aG×bt)->bw jx:=λ(a,j,_)=>bC (α:=bt⊕jx) ((aj a.2.2.2.1 0).bind λt=>bz ((t !=0)==br) ((aj a.2.2.2.1 (ak a.1)).bind λu=>bz (u !=ak a.2.2.2.2.1) (Y (.inr (br,()))) (Y (.inl ()))) (Y (.inr (br,())))) λb=>match b with
 |.inl _=>((loop (σ:=dc) (ρ:=(bt⊕jx)) (λ(f,_)=>bif bu (f<ak j) then((aj j f).bind λi=>(aj a.2.1 f).bind λm=>(loop (σ:=dc) (ρ:=(bt⊕(dc⊕(bt⊕jx)))) (λ(d,_)=>bif bu (d<=au (au (i+m)-1)) then(bC (α:=bt⊕zr) (bC (α:=bt⊕(bt⊕zr)) ((aj a.2.2.2.1 d).bind λv=>(aj a.2.2.2.1 (aH d)).bind λp=>bz (bu (v>p)==br) ((aj a.2.2.2.1 (aH d)).bind λq=>bz (bu (q>ak a.2.2.2.2.1)) (Y (.inr (.inr (.inr (.inr (.inr (.inr (br,())))))))) (Y (.inl ()))) (Y (.inr (.inr (.inr (.inr (.inr (.inr (br,()))))))))) λb=>match b with
 |.inl _=>((aj a.2.2.2.1 d).bind λr=>(aj a.2.2.2.1 (aH d)).bind λs=>((fY r).bind λk=>(fY s).bind λl=>(gZ k l (a.2.2.2.2.1).length).map λ_=>(k,l)).bind λe=>(loop (σ:=mX) (ρ:=(bt⊕(bt⊕zr))) (λ(n,g,_)=>bif bu (g<ak (((a.2.2.2.2.1).take e.2).drop e.1)) then(bC (α:=dc⊕(mX⊕(bt⊕(bt⊕zr)))) ((aj (((a.2.2.2.2.1).take e.2).drop e.1) g).bind λh=>bC (α:=bt⊕(dc⊕(mX⊕(bt⊕(bt⊕zr))))) (bz (bu (h<=n)==br) (bz (bu (h>=ak a.1)) (Y (.inr (.inr (.inr (.inr (.inr (.inr (.inr (.inr (.inr (br,()))))))))))) (Y (.inl ()))) (Y (.inr (.inr (.inr (.inr (.inr (.inr (.inr (.inr (.inr (br,())))))))))))) λb=>match b with
 |.inl _=>(Y (.inl (h,())))
 |.inr c=>Y c) λb=>match b with
 |.inl (o,_)=>(Y (.inl (o,aH g,())))
 |.inr c=>Y c) else Y (.inr (.inl ()))) (au (au (i+m)-1),0,())).bind λb=>match b with
 |.inl _=>(Y (.inl ()))
 |.inr c=>Y c)
 |.inr c=>Y c) λb=>match b with
 |.inl _=>(Y (.inl (aH d,())))
 |.inr c=>Y c) else Y (.inr (.inl ()))) (i,())).bind λb=>match b with
 |.inl _=>(Y (.inl (aH f,())))
 |.inr c=>Y c) else Y (.inr (.inl ()))) (0,())).bind λb=>match b with
 |.inl _=>(Y (bp,()))
 |.inr c=>Y c)
 |.inr c=>Y c
def xx:(cL×bt)->bw (fo×bt):=λ(c,_)=>(loop (σ:=(Z×Z×fo×bt)) (ρ:=(fo×bt)) (λ(k,d,f,_)=>bz (bu (d<ak c.2.1)) ((aj c.2.1 d).bind λn=>(loop (σ:=(Z×Z×fo×fm×bt)) (ρ:=(Z×fo×fm×bt)) (λ(a,j,g,b,_)=>bz (bu (j<au (au (2*n)-1))) ((aj c.2.2.1 a).bind λo=>(kP (o,())).bind λ(i,_)=>(bh (b.length+([i]).length)).bind λ_=>Y (.inl (aH a,aH j,g,(b++[i]),()))) (Y (.inr (a,g,b,())))) (k,0,f,[],())).bind λ(l,h,e,_)=>(bh (h.length+([e]).length)).bind λ_=>Y (.inl (l,aH d,(h++[e]),()))) (Y (.inr (f,())))) (0,0,[],())).bind λ(m,_)=>Y (m,())
def qV:(cL×bt)->bw dc:=λ(a,_)=>bC (α:=bt⊕dc) (bz (bu (ak a.1>200)) (Y (.inr (6,()))) ((HN (a.1,())).bind λ(n,_)=>bz (!n) (Y (.inr (90,()))) (bz ((ak a.2.2.2.1 !=aH (ak a.1))==br) (bz (ak a.2.2.2.2.1 !=ak a.2.2.2.2.2.1) (Y (.inr (2,()))) (Y (.inl ()))) (Y (.inr (2,())))))) λb=>match b with
 |.inl _=>((z5 (a,())).bind λ(q,aL,_)=>bC (α:=bt⊕dc) (bz ((!aL)==br) (bz (bu (a.2.2.2.2.2.2.1<0)==br) ((Do (a,q,())).bind λ(r,_)=>bz (!r) (Y (.inr (240,()))) (Y (.inl ()))) (Y (.inr (240,())))) (Y (.inr (240,())))) λb=>match b with
 |.inl _=>((loop (σ:=(Z×bn aG×bt)) (ρ:=(bt⊕dc)) (λ(g,j,_)=>bif bu (g<ak ([a.2.2.2.2.2.1,a.2.2.1])) then(rd j g λk=>(loop (σ:=(Z×bn aG×bt)) (ρ:=((bn aG×bt)⊕((Z×bn aG×bt)⊕(bt⊕dc)))) (λ(d,i,_)=>bz (bu (d<ak k)) ((aj k d).bind λu=>(ou (u,())).bind λ(m,_)=>bz (!m) (Y (.inr (.inr (.inr (.inr (4,())))))) (Y (.inl (aH d,i,())))) (Y (.inr (.inl (i,()))))) (0,j,())).bind λb=>match b with
 |.inl (s,_)=>(Y (.inl (aH g,s,())))
 |.inr c=>Y c) else Y (.inr (.inl ()))) (0,[a.2.2.2.2.2.1,a.2.2.1],())).bind λb=>match b with
 |.inl _=>((xx (a,())).bind λ(h,_)=>(loop (σ:=(Z×fo×bt)) (ρ:=(bt⊕dc)) (λ(e,f,_)=>bif bu (e<ak h) then(bC (α:=(fo×bt)⊕((Z×fo×bt)⊕(bt⊕dc))) (rd f e λl=>bz ((ak l==3)==bp) ((sF (l,())).bind λ(o,_)=>(oo (o,())).bind λ(p,_)=>bz (p==0) (Y (.inr (.inr (.inr (4,()))))) (Y (.inl (f,())))) (Y (.inl (f,())))) λb=>match b with
 |.inl (t,_)=>(Y (.inl (aH e,t,())))
 |.inr c=>Y c) else Y (.inr (.inl ()))) (0,h,())).bind λb=>match b with
 |.inl _=>(Y (0,()))
 |.inr c=>Y c)
 |.inr c=>Y c)
 |.inr c=>Y c)
 |.inr c=>Y c
def uY:(cL×bt)->bw (jw×Z×bt):=λ(j,_)=>(qV (j,())).bind λ(l,_)=>(bif l !=0 then Y (((0:Z),((0:Z),((0:Z),()))),l,()) else(xx (j,())).bind λ(m,_)=>(loop (σ:=(Z×jw×jw×fo×bt)) (ρ:=(jw×jw×bt)) (λ(h,c,b,d,_)=>bif bu (h<ak m) then bC (α:=(jw×jw×fo×bt)) (rd d h λi=>(aj i 0).bind λv=>(oo (v,())).bind λ(k,_)=>bC (α:=(Z×jw×jw×fo×bt)⊕(jw×jw×fo×bt)) (bz (ak i==3) ((sF (i,())).bind λ(r,_)=>(oo (r,())).bind λ(s,_)=>bz (bu (s<0)) (Y (.inr (c,(aH b.1,(b.2.1,(au (b.2.2.1+1),b.2.2.2))),d,()))) (Y (.inl (2,c,b,d,())))) (Y (.inl (1,c,b,d,())))) λp=>match p with
 |.inl (e,f,a,g,_)=>(bz (bu (k<0)) (Y (f,(au (a.1+e),a.2),g,())) (bz (bu (k>0)) (Y (f,(a.1,(a.2.1,(au (a.2.2.1+e),a.2.2.2))),g,())) (Y (f,(a.1,(au (a.2.1+e),a.2.2)),g,()))))
 |.inr q=>Y q) λ(t,n,u,_)=>Y (.inl (aH h,t,n,u,())) else Y (.inr (c,b,()))) (0,((0:Z),((0:Z),((0:Z),()))),((0:Z),((0:Z),((0:Z),()))),m,())).bind λ(_,o,_)=>Y (o,0,()))
def Ek:(cL×bt)->bw jx:=λ(a,_)=>bC (α:=bt⊕jx) (bz (bu (a.2.2.2.2.2.2.1<0)==br) ((Ef (a.2.2.2.1,ak a.1,ak a.2.2.2.2.1,())).bind λ(n,_)=>bz (!n) (Y (.inr (br,()))) (Y (.inl ()))) (Y (.inr (br,())))) λb=>match b with
 |.inl _=>((loop (σ:=eg) (ρ:=(mX⊕jx)) (λ(f,i,d,_)=>bif bu (d<ak a.2.1) then(bC (α:=mX⊕w1) (bC (α:=bt⊕(mX⊕w1)) ((aj a.2.1 d).bind λw=>bz ((w !=1)==bp) ((aj a.2.1 d).bind λx=>bz ((x !=2)==br) ((aj a.2.1 d).bind λy=>bz (bu (au (f+y)>ak a.1)) (Y (.inr (.inr (.inr (.inr (br,())))))) (Y (.inl ()))) (Y (.inr (.inr (.inr (.inr (br,()))))))) ((aj a.2.1 d).bind λz=>bz (bu (au (f+z)>ak a.1)) (Y (.inr (.inr (.inr (.inr (br,())))))) (Y (.inl ())))) λb=>match b with
 |.inl _=>((aj a.2.1 d).bind λh=>(loop (σ:=dc) (ρ:=(bt⊕(mX⊕w1))) (λ(g,_)=>bif bu (g<=au (au (f+h)-1)) then((aj a.2.2.2.1 g).bind λo=>(loop (σ:=dc) (ρ:=(bt⊕(dc⊕(bt⊕(mX⊕w1))))) (λ(e,_)=>(aj a.2.2.2.1 (aH g)).bind λp=>bif bu (e<p) then(bC (α:=bt⊕(dc⊕(bt⊕(dc⊕(bt⊕(mX⊕w1)))))) ((aj a.2.2.2.2.1 e).bind λq=>bz (bu (q<=au (au (f+h)-1))==br) ((aj a.2.2.2.2.1 e).bind λr=>bz (bu (r>=ak a.1)==br) ((aj a.2.2.2.1 g).bind λs=>bz (bu (e>s)==bp) ((aj a.2.2.2.2.1 e).bind λt=>(aj a.2.2.2.2.1 (au (e-1))).bind λu=>bz (bu (t<=u)) (Y (.inr (.inr (.inr (.inr (.inr (.inr (.inr (.inr (br,())))))))))) (Y (.inl ()))) (Y (.inl ()))) (Y (.inr (.inr (.inr (.inr (.inr (.inr (.inr (.inr (br,()))))))))))) (Y (.inr (.inr (.inr (.inr (.inr (.inr (.inr (.inr (br,()))))))))))) λb=>match b with
 |.inl _=>(Y (.inl (aH e,())))
 |.inr c=>Y c) else Y (.inr (.inl ()))) (o,())).bind λb=>match b with
 |.inl _=>(Y (.inl (aH g,())))
 |.inr c=>Y c) else Y (.inr (.inl ()))) (f,())).bind λb=>match b with
 |.inl _=>((aj a.2.1 d).bind λv=>Y (.inl (aH (au (au (f+h)-1)),au (au (i+au (2*v))-1),())))
 |.inr c=>Y c)
 |.inr c=>Y c) λb=>match b with
 |.inl (l,j,_)=>(Y (.inl (l,j,aH d,())))
 |.inr c=>Y c) else Y (.inr (.inl (f,i,())))) (0,0,0,())).bind λb=>match b with
 |.inl (m,k,_)=>(bz ((m==ak a.1)==bp) (Y ((k==ak a.2.2.1),())) (Y (br,())))
 |.inr c=>Y c)
 |.inr c=>Y c
def q3:(cL×bt)->bw dc:=λ(a,_)=>bC (α:=bt⊕dc) (bz (bu (ak a.1>200)) (Y (.inr (6,()))) ((Ax (a.1,ak a.1,())).bind λ(o,_)=>bz (!o) (Y (.inr (90,()))) (bC (α:=jx) (bz ((ak a.2.2.2.1 !=aH (ak a.1))==br) (Y ((ak a.2.2.2.2.1 !=ak a.2.2.2.2.2.1),())) (Y (bp,()))) λ(q,_)=>bz q (Y (.inr (2,()))) ((Ek (a,())).bind λ(aL,_)=>bz (!aL) (Y (.inr (240,()))) (Y (.inl ())))))) λb=>match b with
 |.inl _=>((loop (σ:=dc) (ρ:=(bt⊕dc)) (λ(f,_)=>bz (bu (f<ak a.2.2.2.2.2.1)) ((aj a.2.2.2.2.2.1 f).bind λt=>(o8 (t,())).bind λ(p,_)=>bz (!p) (Y (.inr (.inr (4,())))) (Y (.inl (aH f,())))) (Y (.inr (.inl ())))) (0,())).bind λb=>match b with
 |.inl _=>((loop (σ:=dc) (ρ:=(bt⊕dc)) (λ(g,_)=>bz (bu (g<ak a.2.2.1)) ((aj a.2.2.1 g).bind λu=>(o8 (u,())).bind λ(l,_)=>bz (!l) (Y (.inr (.inr (4,())))) (Y (.inl (aH g,())))) (Y (.inr (.inl ())))) (0,())).bind λb=>match b with
 |.inl _=>((loop (σ:=mX) (ρ:=(bt⊕dc)) (λ(e,d,_)=>bif bu (d<ak a.2.1) then(bC (α:=dc⊕(mX⊕(bt⊕dc))) (bC (α:=bt⊕(dc⊕(mX⊕(bt⊕dc)))) ((aj a.2.1 d).bind λr=>bz ((r==2)==bp) (((fY e).bind λh=>(fY (au (e+3))).bind λi=>(gZ h i (a.2.2.1).length).map λ_=>(h,i)).bind λj=>(sT ((((a.2.2.1).take j.2).drop j.1),())).bind λ(m,_)=>(u9 (m,())).bind λ(n,_)=>bz (n==0) (Y (.inr (.inr (.inr (.inr (4,())))))) (Y (.inl ()))) (Y (.inl ()))) λb=>match b with
 |.inl _=>((aj a.2.1 d).bind λs=>Y (.inl (au (au (e+au (2*s))-1),())))
 |.inr c=>Y c) λb=>match b with
 |.inl (k,_)=>(Y (.inl (k,aH d,())))
 |.inr c=>Y c) else Y (.inr (.inl ()))) (0,0,())).bind λb=>match b with
 |.inl _=>(Y (0,()))
 |.inr c=>Y c)
 |.inr c=>Y c)
 |.inr c=>Y c)
 |.inr c=>Y c
def Eg:(cL×bt)->bw (fo×fo×bt):=λ(a,_)=>(loop (σ:=(Z×fo×fo×bt)) (ρ:=(fo×fo×bt)) (λ(l,d,m,_)=>bif bu (l<ak a.1) then(fj (ak a.1) (ak a.1)).bind λj=>(bh (d.length+([bJ j (br,((br,(([]:aj0),())),((0:Z),())))]).length)).bind λ_=>(fj (ak a.1) (ak a.1)).bind λL=>(bh (m.length+([bJ L (br,((br,(([]:aj0),())),((0:Z),())))]).length)).bind λ_=>(bf (d++[bJ j (br,((br,(([]:aj0),())),((0:Z),())))]).length l).bind λs=>(sM (1,())).bind λ(ds,_)=>((a8 (d++[bJ j (br,((br,(([]:aj0),())),((0:Z),())))]) s λT=>Y T).bind λU=>bf U.length l).bind λE=>(a8 (d++[bJ j (br,((br,(([]:aj0),())),((0:Z),())))]) s λy=>(a8 y E λ_=>Y (y.set E ds)).map λel=>(d++[bJ j (br,((br,(([]:aj0),())),((0:Z),())))]).set s el).bind λem=>
 Y (.inl (aH l,em,(m++[bJ L (br,((br,(([]:aj0),())),((0:Z),())))]),())) else Y (.inr (d,m,()))) (0,[],[],())).bind λ(bx,P,_)=>(loop (σ:=(Z×fo×fo×bt)) (ρ:=(fo×fo×bt)) (λ(h,K,w,_)=>bz (bu (h<ak a.1)) ((aj a.2.2.2.1 h).bind λd0=>(loop (σ:=(Z×fo×fo×bt)) (ρ:=(fo×fo×bt)) (λ(k,i,x,_)=>(aj a.2.2.2.1 (aH h)).bind λd1=>bz (bu (k<d1)) ((aj a.2.2.2.2.1 k).bind λd2=>(bf i.length d2).bind λn=>(aj a.2.2.2.2.2.1 k).bind λd3=>(iV (d3,())).bind λ(cv,_)=>((a8 i n λV=>Y V).bind λad=>bf ad.length h).bind λF=>(a8 i n λz=>(a8 z F λ_=>Y (z.set F cv)).map λeq=>i.set n eq).bind λex=>Y (.inl (aH k,ex,x,()))) (Y (.inr (i,x,())))) (d0,K,w,())).bind λ(ce,Q,_)=>Y (.inl (aH h,ce,Q,()))) (Y (.inr (K,w,())))) (0,bx,P,())).bind λ(ci,R,_)=>
 (loop (σ:=(Z×Z×Z×fo×fo×bt)) (ρ:=(fo×fo×bt)) (λ(b,e,f,t,g,_)=>bif bu (f<ak a.2.1) then bC (α:=(Z×Z×fo×fo×bt)) ((bf g.length b).bind λo=>(aj a.2.2.1 e).bind λd4=>(iV (d4,())).bind λ(c1,_)=>((a8 g o λam=>Y am).bind λan=>bf an.length b).bind λG=>(a8 g o λA=>(a8 A G λ_=>Y (A.set G c1)).map λfn=>g.set o fn).bind λc=>bC (α:=(fo×fo×bt)) ((aj a.2.1 f).bind λd5=>bif d5==2 then(bf c.length (aH b)).bind λp=>(bf c.length b).bind λq=>(bf c.length (aH b)).bind λr=>(aj a.2.2.1 (aH e)).bind λd6=>(iV (d6,())).bind λ(c2,_)=>(aj a.2.2.1 (aH e)).bind λd7=>(iV (d7,())).bind λ(dg,_)=>(aj a.2.2.1 (au (e+2))).bind λd8=>(iV (d8,())).bind λ(dl,_)=>((a8 c p λap=>Y ap).bind λav=>bf av.length b).bind λH=>(a8 c p λB=>(a8 B H λ_=>Y (B.set H c2)).map λfp=>c.set p fp).bind λu=>
 ((a8 u q λa0=>Y a0).bind λa1=>bf a1.length (aH b)).bind λI=>(a8 u q λC=>(a8 C I λ_=>Y (C.set I dg)).map λfr=>u.set q fr).bind λv=>((a8 v r λa3=>Y a3).bind λa4=>bf a4.length (aH b)).bind λJ=>(a8 v r λD=>(a8 D J λ_=>Y (D.set J dl)).map λfs=>v.set r fs).bind λft=>Y (t,ft,()) else Y (t,c,())) λ(co,S,_)=>(aj a.2.1 f).bind λd9=>(aj a.2.1 f).bind λek=>Y (au (b+d9),au (au (e+au (2*ek))-1),co,S,())) λ(bl,M,cs,N,_)=>Y (.inl (bl,M,aH f,cs,N,())) else Y (.inr (t,g,()))) (0,0,0,ci,R,())).bind λ(bs,O,_)=>Y (bs,O,())
def sU:(cL×bt)->bw (gN×Z×bt):=λ(a,_)=>(q3 (a,())).bind λ(n,_)=>(bif n !=0 then Y (((0:Z),((0:Z),(([]:fm),()))),n,()) else bif bu (ak a.1>64) then Y (((0:Z),((0:Z),(([]:fm),()))),6,()) else(Eg (a,())).bind λ(o,B,_)=>(Av (ak a.1,ak a.1,())).bind λ(C,_)=>(loop (σ:=(Z×gN×gN×bt)) (ρ:=(gN×gN×bt)) (λ(f,q,j,_)=>bif bu (f<ak a.1) then(loop (σ:=(Z×gN×gN×bt)) (ρ:=(gN×gN×bt)) (λ(e,r,k,_)=>bif bu (e<ak a.1) then(loop (σ:=(Z×gN×gN×fm×bt)) (ρ:=(gN×gN×fm×bt)) (λ(b,s,l,t,_)=>bif bu (b<ak a.1) then(loop (σ:=(Z×gN×gN×fm×bt)) (ρ:=(gN×gN×fm×bt)) (λ(d,h,g,i,_)=>bC (α:=(gN×gN×fm×bt)⊕((Z×gN×gN×fm×bt)⊕(gN×gN×fm×bt))) (bif bu (d<ak a.1)==bp then bif bu (d<=aH b) then Y (.inl (h,g,i,())) else
 Y (.inr (.inr (h,g,i,()))) else Y (.inr (.inr (h,g,i,())))) λz=>match z with
 |.inl (F,v,u,_)=>((aj o e).bind λL=>(aj L b).bind λM=>(aj B b).bind λN=>(aj N d).bind λO=>(jV (M,O,())).bind λ(D,_)=>(aj o f).bind λP=>(aj P d).bind λQ=>(jV (D,Q,())).bind λ(p,_)=>(bh (u.length+([p]).length)).bind λ_=>Y (.inl (aH d,F,v,(u++[p]),())))
 |.inr A=>Y A) ((if 0>au (b-1) then 0 else au (b-1)),s,l,t,())).bind λ(G,w,H,_)=>Y (.inl (aH b,G,w,H,())) else Y (.inr (s,l,t,()))) (0,r,k,[],())).bind λ(I,c,J,_)=>(Aj (J,())).bind λ(E,_)=>(bf (c.2.2.1).length (au (au (f*ak a.1)+e))).bind λm=>((((a8 c.2.2.1 m λ_=>Y ((c.2.2.1).set m E)).map λR=>(R,c.2.2.2)).map λS=>(c.2.1,S)).map λT=>(c.1,T)).bind λU=>Y (.inl (aH e,I,U,())) else Y (.inr (r,k,()))) (0,q,j,())).bind λ(K,x,_)=>Y (.inl (aH f,K,x,())) else Y (.inr (q,j,()))) (0,((0:Z),((0:Z),([],()))),C,())).bind λ(_,y,_)=>Y (y,0,()))
def xB:(cL×Z×bt)->bw (bw (bn (Z×cP)×X)×bt):=λ(b,c,_)=>(o7 (1,())).bind λ(i,_)=>(tp (Y ([],0)) c i).bind λg=>(aj b.2.2.2.1 c).bind λk=>(loop (σ:=(Z×bw (bn (Z×cP)×X)×bt)) (ρ:=(bw (bn (Z×cP)×X)×bt)) (λ(a,d,_)=>(aj b.2.2.2.1 (aH c)).bind λl=>bz (bu (a<l)) ((aj b.2.2.2.2.1 a).bind λm=>(aj b.2.2.2.2.2.1 a).bind λj=>(kP (j,())).bind λ(h,_)=>(tp d m h).bind λf=>Y (.inl (aH a,f,()))) (Y (.inr (d,())))) (k,g,())).bind λ(e,_)=>Y (e,())
def vg:(nv×cL×bt)->bw (cP×Z×bt):=λ(d,a,_)=>(q3 (a,())).bind λ(b,_)=>(bz (b !=0) (Y ((br,((br,(([]:aj0),())),((0:Z),()))),b,())) ((ve (d,a.1,())).bind λ(aL,c,_)=>bz (c !=0) (Y ((br,((br,(([]:aj0),())),((0:Z),()))),c,())) ((sU (a,())).bind λ(e,_,_)=>(H6 (aL,e,())).bind λ(f,_)=>Y (f,0,()))))
def xR:(cL×bt)->bw (jw×Z×bt):=λ(b,_)=>(q3 (b,())).bind λ(k,_)=>(bif k !=0 then Y (((0:Z),((0:Z),((0:Z),()))),k,()) else(loop (σ:=(Z×Z×jw×jw×bt)) (ρ:=(jw×jw×bt)) (λ(d,c,g,f,_)=>bif bu (c<ak b.2.1) then bC (α:=(Z×jw×jw×bt)) ((aj b.2.2.1 d).bind λA=>(iV (A,())).bind λ(s,_)=>(u9 (s,())).bind λ(l,_)=>bC (α:=(jw×jw×bt)) (bC (α:=(bA×jw×jw×bt)) ((aj b.2.1 c).bind λw=>bz ((w==2)==bp) (((fY d).bind λh=>(fY (au (d+3))).bind λi=>(gZ h i (b.2.2.1).length).map λ_=>(h,i)).bind λj=>(sT ((((b.2.2.1).take j.2).drop j.1),())).bind λ(q,_)=>(u9 (q,())).bind λ(r,_)=>Y (bu (r<0),g,f,())) (Y (br,g,f,()))) λ(t,e,a,_)=>bif t then Y (e,(aH a.1,(a.2.1,(au (a.2.2.1+1),a.2.2.2))),()) else
 bz (bu (l<0)) ((aj b.2.1 c).bind λx=>Y (e,(au (a.1+x),a.2),())) (bz (bu (l>0)) ((aj b.2.1 c).bind λy=>Y (e,(a.1,(a.2.1,(au (a.2.2.1+y),a.2.2.2))),())) (Y (e,(a.1,(aH a.2.1,a.2.2)),())))) λ(u,n,_)=>(aj b.2.1 c).bind λz=>Y (au (au (d+au (2*z))-1),u,n,())) λ(m,v,o,_)=>Y (.inl (m,aH c,v,o,())) else Y (.inr (g,f,()))) (0,0,((0:Z),((0:Z),((0:Z),()))),((0:Z),((0:Z),((0:Z),()))),())).bind λ(_,p,_)=>Y (p,0,()))
def Nz:(dj×Z×Z×bt)->bw (dj×bn eO×Z×bt):=λ(a,j,k,_)=>(Dq (Y a,())).bind λ(b,_)=>(kP (k,())).bind λ(c,_)=>(oo (c,())).bind λ(l,_)=>(bz (l==0) ((o7 (1,())).bind λ(m,_)=>(Nx (Y a,b,(),m,())).bind λ(n,d,e,_)=>bz (e !=0) (Y (a,[],e,())) ((qX (d,c,())).bind λ(o,_)=>(qW (a,b,o,d,())).bind λ(h,_)=>Y (h,[n],0,()))) ((Ny (Y a,b,(Y (Y a),Y j,()),c,())).bind λ(p,f,g,_)=>bz (g !=0) (Y (a,[],g,())) ((qX (f,c,())).bind λ(q,_)=>(qW (a,b,q,f,())).bind λ(i,_)=>Y (i,[p],0,()))))
def HK:(Z×Z×Z×cP×cP×bw (bw dj)×bt)->bw (cP×bt):=λ(a,c,d,h,i,b,_)=>b.bind λo=>o.bind λp=>(aj p.2.2.2.1 a).bind λq=>(aj q c).bind λj=>(la (j,h,())).bind λ(e,_)=>b.bind λk=>k.bind λl=>(aj l.2.2.2.1 a).bind λm=>(aj m d).bind λn=>(la (n,i,())).bind λ(f,_)=>(sw (e,f,())).bind λ(g,_)=>Y (g,())
def Nv:(Z×bw (bw (bw dj)×bt)×ajU×ajU×bw fm×bt)->bw (cP×bt):=λ(b,c,d,e,a,_)=>c.bind λj=>d.bind λk=>e.bind λl=>a.bind λm=>(aj m 2).bind λg=>a.bind λh=>(aj h 1).bind λi=>(HK (b,k,l,g,i,j.1,())).bind λ(f,_)=>Y (f,())
def HL:(bw dj×aG×(bw (bw (bw dj)×bt)×ajU×ajU×bw fm×bt)×cP×bt)->bw (eO×fm×Z×bt):=λ(r,f,b,q,_)=>(loop (σ:=(Z×eO×eO×fm×bt)) (ρ:=((eO×eO×fm×bt)⊕(eO×fm×Z×bt))) (λ(e,h,a,d,_)=>bz (bu (e<ak f)) ((aj f e).bind λi=>(Nv (i,b.1,b.2.1,b.2.2.1,b.2.2.2.1,())).bind λ(o,_)=>(zQ (o,q,0,())).bind λ(c,_)=>(ou (c,())).bind λ(p,_)=>bz (!p) (Y (.inr (.inr (a,[],233,())))) (r.bind λs=>(aj s.1 i).bind λj=>(bh ((a.1).length+([j]).length)).bind λ_=>(bh ((a.2.1).length+([c]).length)).bind λ_=>(kP (c,())).bind λ(g,_)=>(bh (d.length+([g]).length)).bind λ_=>Y (.inl (aH e,h,((a.1++[j]),((a.2.1++[c]),a.2.2)),(d++[g]),())))) (Y (.inr (.inl (h,a,d,()))))) (0,([],([],())),([],([],())),[],())).bind λm=>match m with
 |.inl (_,k,l,_)=>(Y (k,l,0,()))
 |.inr n=>Y n
def Nw:(Z×bw (bw (bw dj)×bt)×ajU×ajU×bw fm×bt)->bw (cP×bt):=λ(b,c,d,e,a,_)=>c.bind λj=>d.bind λk=>e.bind λl=>a.bind λm=>(aj m 0).bind λg=>a.bind λh=>(aj h 1).bind λi=>(HK (b,k,l,g,i,j.1,())).bind λ(f,_)=>Y (f,())
def HM:(bw dj×aG×(bw (bw (bw dj)×bt)×ajU×ajU×bw fm×bt)×cP×bt)->bw (eO×fm×Z×bt):=λ(r,f,b,q,_)=>(loop (σ:=(Z×eO×eO×fm×bt)) (ρ:=((eO×eO×fm×bt)⊕(eO×fm×Z×bt))) (λ(e,h,a,d,_)=>bz (bu (e<ak f)) ((aj f e).bind λi=>(Nw (i,b.1,b.2.1,b.2.2.1,b.2.2.2.1,())).bind λ(o,_)=>(zQ (o,q,0,())).bind λ(c,_)=>(ou (c,())).bind λ(p,_)=>bz (!p) (Y (.inr (.inr (a,[],233,())))) (r.bind λs=>(aj s.1 i).bind λj=>(bh ((a.1).length+([j]).length)).bind λ_=>(bh ((a.2.1).length+([c]).length)).bind λ_=>(kP (c,())).bind λ(g,_)=>(bh (d.length+([g]).length)).bind λ_=>Y (.inl (aH e,h,((a.1++[j]),((a.2.1++[c]),a.2.2)),(d++[g]),())))) (Y (.inr (.inl (h,a,d,()))))) (0,([],([],())),([],([],())),[],())).bind λm=>match m with
 |.inl (_,k,l,_)=>(Y (k,l,0,()))
 |.inr n=>Y n
def Dp:(dj×Z×Z×aG×bt)->bw (dj×bn eO×Z×bt):=λ(a,i,m,h,_)=>(Dq (Y a,())).bind λ(e,_)=>(aj h 0).bind λx=>(kP (x,())).bind λ(b,_)=>(aj h 1).bind λy=>(kP (y,())).bind λ(c,_)=>(aj h 2).bind λz=>(kP (z,())).bind λ(d,_)=>(sF ([b,c,d],())).bind λ(j,_)=>(HL (Y a,e,(Y (Y (Y a),()),Y i,Y m,Y [b,c,d],()),j,())).bind λ(r,f,k,_)=>(bif k !=0 then Y (a,[],k,()) else(HM (Y a,e,(Y (Y (Y a),()),Y m,Y i,Y [b,c,d],()),j,())).bind λ(s,g,l,_)=>bif l !=0 then Y (a,[],l,()) else(aj [b,c,d] 0).bind λA=>(qX (f,A,())).bind λ(t,_)=>(qW (a,e,t,f,())).bind λ(n,_)=>(aj [b,c,d] 1).bind λB=>(qX (f,B,())).bind λ(u,_)=>
 (qW (n,e,u,g,())).bind λ(o,_)=>(aj [b,c,d] 1).bind λC=>(qX (g,C,())).bind λ(v,_)=>(qW (o,e,v,f,())).bind λ(p,_)=>(aj [b,c,d] 2).bind λD=>(qX (g,D,())).bind λ(w,_)=>(qW (p,e,w,g,())).bind λ(q,_)=>Y (q,[r,s],0,()))
def HO:((bw (Z×((bn aG×bt)×(bn (bw (bn (Z×cP)×X))×bt)))×(aG×(aG×(aG×(bn eO×dc)))))×dj×aG×bt)->bw ((bw (Z×((bn aG×bt)×(bn (bw (bn (Z×cP)×X))×bt)))×(aG×(aG×(aG×(bn eO×dc)))))×dj×Z×bt):=λ(C,D,a,_)=>(loop (σ:=(Z×(bw (Z×((bn aG×bt)×(bn (bw (bn (Z×cP)×X))×bt)))×(aG×(aG×(aG×(bn eO×dc)))))×dj×aG×bt)) (ρ:=((bw (Z×((bn aG×bt)×(bn (bw (bn (Z×cP)×X))×bt)))×(aG×(aG×(aG×(bn eO×dc)))))×dj×aG×bt)) (λ(d,o,r,l,_)=>bif bu (d<ak a) then(loop (σ:=(Z×(bw (Z×((bn aG×bt)×(bn (bw (bn (Z×cP)×X))×bt)))×(aG×(aG×(aG×(bn eO×dc)))))×dj×aG×bt)) (ρ:=((bw (Z×((bn aG×bt)×(bn (bw (bn (Z×cP)×X))×bt)))×(aG×(aG×(aG×(bn eO×dc)))))×dj×aG×bt)) (λ(i,p,j,h,_)=>bif bu (i<aH d) then(aj a d).bind λF=>
 (aj a i).bind λG=>(xz (Y j,F,G,())).bind λ(n,_)=>(bh (h.length+([n]).length)).bind λ_=>Y (.inl (aH i,p,j,(h++[n]),())) else Y (.inr (p,j,h,()))) (0,o,r,l,())).bind λ(g,e,u,_)=>(aj a d).bind λH=>(bf (e.2.2.1).length H).bind λm=>((((a8 e.2.2.1 m λ_=>Y ((e.2.2.1).set m br)).map λN=>(N,e.2.2.2)).map λO=>(e.2.1,O)).map λP=>(e.1,P)).bind λt=>(aj a d).bind λI=>rd t.1 I λs=>(bh ((g.2.1).length+([s]).length)).bind λ_=>Y (.inl (aH d,(g.1,((g.2.1++[s]),g.2.2)),t,u,())) else Y (.inr (o,r,l,()))) (0,C,D,[],())).bind λ(b,q,f,_)=>(bh ((b.2.2.1).length+([ak a]).length)).bind λ_=>(bh ((b.2.2.2.1).length+f.length)).bind λ_=>bC (α:=(Z×bn eO×(bw (Z×((bn aG×bt)×(bn (bw (bn (Z×cP)×X))×bt)))×(aG×(aG×(aG×(bn eO×dc)))))×dj×bt)) (bif ak a==1 then
 (aj a 0).bind λJ=>rd f 0 λK=>(Nz (q,J,K,())).bind λ(w,y,z,_)=>Y (z,y,(b.1,(b.2.1,((b.2.2.1++[ak a]),((b.2.2.2.1++f),b.2.2.2.2)))),w,()) else(aj a 0).bind λL=>(aj a 1).bind λM=>(Dp (q,L,M,f,())).bind λ(x,A,B,_)=>Y (B,A,(b.1,(b.2.1,((b.2.2.1++[ak a]),((b.2.2.2.1++f),b.2.2.2.2)))),x,())) λ(v,k,c,E,_)=>(bh ((c.2.2.2.2.1).length+k.length)).bind λ_=>Y ((c.1,(c.2.1,(c.2.2.1,(c.2.2.2.1,((c.2.2.2.2.1++k),c.2.2.2.2.2))))),E,v,())
def Dt:((bw (Z×((bn aG×bt)×(bn (bw (bn (Z×cP)×X))×bt)))×(aG×(aG×(aG×(bn eO×dc)))))×dj×bt)->bw ((bw (Z×((bn aG×bt)×(bn (bw (bn (Z×cP)×X))×bt)))×(aG×(aG×(aG×(bn eO×dc)))))×dj×Z×bt):=λ(n,s,_)=>(loop (σ:=((bw (Z×((bn aG×bt)×(bn (bw (bn (Z×cP)×X))×bt)))×(aG×(aG×(aG×(bn eO×dc)))))×dj×bt)) (ρ:=(((bw (Z×((bn aG×bt)×(bn (bw (bn (Z×cP)×X))×bt)))×(aG×(aG×(aG×(bn eO×dc)))))×dj×bt)⊕((bw (Z×((bn aG×bt)×(bn (bw (bn (Z×cP)×X))×bt)))×(aG×(aG×(aG×(bn eO×dc)))))×dj×Z×bt))) (λ(d,c,_)=>(xy (Y c,())).bind λ(h,i,_)=>bz (i !=0) (Y (.inr (.inr (d,c,i,())))) (bz (ak h==0) (Y (.inr (.inl (d,c,())))) ((HO (d,c,h,())).bind λ(f,g,j,_)=>bz (j !=0) (Y (.inr (.inr (f,g,j,())))) (Y (.inl (f,g,())))))) (n,s,())).bind λl=>match l with
 |.inl (o,k,_)=>((loop (σ:=(Z×(bw (Z×((bn aG×bt)×(bn (bw (bn (Z×cP)×X))×bt)))×(aG×(aG×(aG×(bn eO×dc)))))×dj×bt)) (ρ:=((bw (Z×((bn aG×bt)×(bn (bw (bn (Z×cP)×X))×bt)))×(aG×(aG×(aG×(bn eO×dc)))))×dj×bt)) (λ(e,a,b,_)=>bz (bu (e<k.2.1)) (bC (α:=((bw (Z×((bn aG×bt)×(bn (bw (bn (Z×cP)×X))×bt)))×(aG×(aG×(aG×(bn eO×dc)))))×dj×bt)) (rd b.2.2.1 e λu=>bz u (Y ((a.1,(a.2.1,(a.2.2.1,(a.2.2.2.1,(a.2.2.2.2.1,(aH a.2.2.2.2.2.1,a.2.2.2.2.2.2)))))),b,())) (Y (a,b,()))) λ(p,r,_)=>Y (.inl (aH e,p,r,()))) (Y (.inr (a,b,())))) (0,o,k,())).bind λ(q,t,_)=>Y (q,t,0,()))
 |.inr m=>Y m
def Dl:(nv×aG×bn pO×bt)->bw (cL×Z×bt):=λ(x,o,b,_)=>(q5 (x,o,())).bind λ(i,p,_)=>(bif p !=0 then Y ((([]:aG),(([]:aG),(([]:aG),(([]:aG),(([]:aG),(([]:aG),((0:Z),()))))))),p,()) else i.bind λM=>(xV (M.2.1,b,())).bind λ(q,_)=>bif q !=0 then Y ((([]:aG),(([]:aG),(([]:aG),(([]:aG),(([]:aG),(([]:aG),((0:Z),()))))))),q,()) else(DF (b,(),())).bind λ(E,_)=>bif E then Y ((([]:aG),(([]:aG),(([]:aG),(([]:aG),(([]:aG),(([]:aG),((0:Z),()))))))),6,()) else((fj (ak b) (ak b)).bind λD=>(loop (σ:=(Z×cL×(bw (Z×((bn aG×bt)×(bn (bw (bn (Z×cP)×X))×bt)))×(aG×(aG×(aG×(bn eO×dc)))))×bn (bn (bw dj))×bt)) (ρ:=((cL×(bw (Z×((bn aG×bt)×(bn (bw (bn (Z×cP)×X))×bt)))×(aG×(aG×(aG×(bn eO×dc)))))×bt)⊕(cL×Z×bt))) (λ(d,k,j,e,_)=>
 bif bu (d<ak b) then(bC (α:=(cL×(bw (Z×((bn aG×bt)×(bn (bw (bn (Z×cP)×X))×bt)))×(aG×(aG×(aG×(bn eO×dc)))))×bn (bn (bw dj))×bt)⊕((Z×cL×(bw (Z×((bn aG×bt)×(bn (bw (bn (Z×cP)×X))×bt)))×(aG×(aG×(aG×(bn eO×dc)))))×bn (bn (bw dj))×bt)⊕((cL×(bw (Z×((bn aG×bt)×(bn (bw (bn (Z×cP)×X))×bt)))×(aG×(aG×(aG×(bn eO×dc)))))×bt)⊕(cL×Z×bt)))) ((aj b d).bind λl=>rd e d λw=>(Dn (i,l,w,())).bind λ(r,s,_)=>bC (α:=(Z×cL×(bw (Z×((bn aG×bt)×(bn (bw (bn (Z×cP)×X))×bt)))×(aG×(aG×(aG×(bn eO×dc)))))×bn (bn (bw dj))×pO×dj×bt)) (bz (s==0) ((Dt (j,r,())).bind λ(B,C,F,_)=>Y (F,k,B,e,l,C,())) (Y (s,k,j,e,l,r,()))) λ(m,u,t,a,f,v,_)=>bif m !=0 then
 Y (.inr (.inr (.inr ((([]:aG),(([]:aG),(([]:aG),(([]:aG),(([]:aG),(([]:aG),((0:Z),()))))))),m,())))) else bz (bu (f.2.2.2.1>=0)) ((bf a.length f.2.2.2.1).bind λn=>(a8 a n λz=>Y z).bind λK=>(bh (K.length+([Y v]).length)).bind λ_=>(bf a.length f.2.2.2.1).bind λc=>bz (bI n c&&bp) ((a8 a c λA=>Y A).bind λL=>(a8 a c λ_=>Y (a.set c (L++[Y v]))).bind λN=>Y (.inl (u,t,N,()))) bq) (Y (.inl (u,t,a,())))) λg=>match g with
 |.inl (J,H,y,_)=>(Y (.inl (aH d,J,H,y,())))
 |.inr h=>Y h) else Y (.inr (.inl (k,j,())))) (0,([],([],([],([],([],([],((0:Z),()))))))),(i,(([]:aG),(([]:aG),(([]:aG),(([]:bn eO),((0:Z),())))))),bJ D [],())).bind λg=>match g with
 |.inl (_,I,_)=>((Ds (Y I,o,())).bind λ(G,_)=>Y (G,0,()))
 |.inr h=>Y h))
def DQ:bt->bw jx:=λ_=>(NF ()).bind λ(b,_)=>(Dl (b,[0,1],[(0,(2,([0,1],((-1:Z),()))))],())).bind λ(a,c,_)=>(uY (a,())).bind λ(aL,d,_)=>(bz ((c==0)==bp) (bz ((d==0)==bp) ((DO (a.2.1,[2],())).bind λ(e,_)=>bz (e==bp) (Y (((aL.1==1)&&((aL.2.1==(0:Z))&&((aL.2.2.1==1)&&bp))),())) (Y (br,()))) (Y (br,()))) (Y (br,())))
def sE:(bw (bn (Z×cP)×X)×bw (bn (Z×cP)×X)×cP×ajU×fo×bt)->bw (fo×bt):=λ(g,h,l,e,o,_)=>e.bind λA=>(loop (σ:=(Z×fo×bt)) (ρ:=(fo×bt)) (λ(c,k,_)=>bif bu (c<A) then e.bind λB=>(loop (σ:=(Z×fo×bt)) (ρ:=(fo×bt)) (λ(a,f,_)=>bif bu (a<B) then bC (α:=(fo×bt)) (bC (α:=(bA×fo×cP×cP×bt)) (bz ((gy (α:=cP) g c).isSome==bp) (Y ((gy (α:=cP) h a).isSome,f,((gy (α:=cP) g c).getD (br,((br,(([]:aj0),())),((0:Z),())))),((gy (α:=cP) h a).getD (br,((br,(([]:aj0),())),((0:Z),())))),())) (Y (br,f,((gy (α:=cP) g c).getD (br,((br,(([]:aj0),())),((0:Z),())))),((gy (α:=cP) h a).getD (br,((br,(([]:aj0),())),((0:Z),())))),()))) λ(q,b,u,v,_)=>bif q then e.bind λy=>e.bind λz=>(bf b.length (au (au (a*z)+c))).bind λi=>(la (u,l,())).bind λ(p,_)=>
 (la (p,v,())).bind λ(j,_)=>(a8 b i λm=>Y m).bind λw=>(bh (w.length+([j]).length)).bind λ_=>(bf b.length (au (au (a*y)+c))).bind λd=>bz (bI i d&&bp) ((a8 b d λn=>Y n).bind λx=>(a8 b d λ_=>Y (b.set d (x++[j]))).bind λC=>Y (C,())) bq else Y (b,())) λ(r,_)=>Y (.inl (aH a,r,())) else Y (.inr (f,()))) (0,k,())).bind λ(s,_)=>Y (.inl (aH c,s,())) else Y (.inr (k,()))) (0,o,())).bind λ(t,_)=>Y (t,())
def sD:(cL×bt)->bw (gN×Z×bt):=λ(a,_)=>(qV (a,())).bind λ(n,_)=>(bif n !=0 then Y (((0:Z),((0:Z),(([]:fm),()))),n,()) else bif bu (ak a.1>64) then Y (((0:Z),((0:Z),(([]:fm),()))),6,()) else(fj (au (ak a.1*ak a.1)) (au (ak a.1*ak a.1))).bind λy=>(z5 (a,())).bind λ(o,_,_)=>(xx (a,())).bind λ(p,_)=>(loop (σ:=(Z×gN×Z×fo×fo×bt)) (ρ:=(gN×Z×fo×bt)) (λ(d,i,b,t,j,_)=>bif bu (d<ak p) then bC (α:=(gN×Z×fo×fo×bt)) (rd j d λe=>(aj o d).bind λF=>(xB (a,F,())).bind λ(f,_)=>(aj e 0).bind λG=>(sE (f,f,G,Y b,t,())).bind λ(k,_)=>bif ak e==3 then(aj o d).bind λH=>(xB (a,aH H,())).bind λ(g,_)=>(aj e 1).bind λI=>(sE (f,g,I,Y b,k,())).bind λ(v,_)=>(aj e 1).bind λJ=>
 (sE (g,f,J,Y b,v,())).bind λ(w,_)=>(aj e 2).bind λK=>(sE (g,g,K,Y b,w,())).bind λ(x,_)=>Y (i,b,x,j,()) else Y (i,b,k,j,())) λ(B,z,E,C,_)=>Y (.inl (aH d,B,z,E,C,())) else Y (.inr (i,b,t,()))) (0,((0:Z),((0:Z),([],()))),ak a.1,bJ y [],p,())).bind λ(D,l,r,_)=>(loop (σ:=(Z×gN×fo×gN×bt)) (ρ:=(gN×gN×bt)) (λ(h,q,s,c,_)=>bz (bu (h<ak r)) (rd s h λu=>(C5 (u,())).bind λ(m,_)=>(bh ((c.2.2.1).length+([m]).length)).bind λ_=>Y (.inl (aH h,q,s,(c.1,(c.2.1,((c.2.2.1++[m]),c.2.2.2))),()))) (Y (.inr (q,c,())))) (0,D,r,(l,(l,(([]:fm),()))),())).bind λ(_,A,_)=>Y (A,0,()))
def uX:(nv×cL×bt)->bw (cP×Z×bt):=λ(j,c,_)=>(qV (c,())).bind λ(h,_)=>(bif h !=0 then Y ((br,((br,(([]:aj0),())),((0:Z),()))),h,()) else(uP (j,c.1,())).bind λ(aL,i,_)=>bif i !=0 then Y ((br,((br,(([]:aj0),())),((0:Z),()))),i,()) else(sD (c,())).bind λ(q,_,_)=>(o7 (0,())).bind λ(r,_)=>(loop (σ:=(Z×cP×gN×gN×cP×bt)) (ρ:=(cP×cP×bt)) (λ(a,f,b,e,d,_)=>bz (bu (a<ak aL.2.2.1)) (bC (α:=(cP×gN×gN×cP×bt)) ((aj b.2.2.1 a).bind λt=>(aj e.2.2.1 a).bind λu=>(sw (t,u,())).bind λ(o,_)=>(C1 (o,())).bind λ(g,_)=>(uS (g,d,())).bind λ(p,_,_)=>bz (bu (p>0)) (Y (f,b,e,g,())) (Y (f,b,e,d,()))) λ(s,k,n,l,_)=>Y (.inl (aH a,s,k,n,l,()))) (Y (.inr (f,d,())))) (0,(br,((br,(([]:aj0),())),((0:Z),()))),aL,q,r,())).bind λ(_,m,_)=>
 Y (m,0,()))
def H5:(aG×Z×Z×bt)->bw jx:=λ(t,d,u,_)=>(DR (t,d,u,br,())).bind λ(aL,r,s,_)=>(vf (aL,r,s,())).bind λ(a,_,_)=>(uY (a,())).bind λ(c,e,_)=>(xR (a,())).bind λ(b,f,_)=>(sD (a,())).bind λ(g,h,_)=>(sU (a,())).bind λ(i,j,_)=>(uX (aL,a,())).bind λ(k,l,_)=>(vg (aL,a,())).bind λ(m,n,_)=>(bz (((c.1==b.1)&&((c.2.1==b.2.1)&&((c.2.2.1==b.2.2.1)&&bp)))==bp) (bz ((e==f)==bp) (bz ((h==j)==bp) ((xH (g,i,())).bind λ(o,_)=>bz (o==bp) (bz ((l==n)==bp) ((u5 (k,m,())).bind λ(p,_)=>bz (p==bp) ((DQ ()).bind λ(q,_)=>Y (q,())) (Y (br,()))) (Y (br,()))) (Y (br,()))) (Y (br,()))) (Y (br,()))) (Y (br,())))
end Go.jt
section
namespace Go.Proofs
open Go.RowKit Go.Shelf Go.Sort
attribute [local go_sem] Oper.semAt_some
def Tryz.Yl:Go.Shelf.Ren:=⟨λ|20=>295|n=>n,λ|22=>23|3=>3|4=>4|0=>0|n=>n,λ|n=>n⟩
def Tryz.Pe:Lays2.n20 cn Tryz.Yl where
 mixed:=by kernel_rfl
 f20:=Tryz.func295.trans (b4 Y (by kernel_rfl))
 t0:=Tryz.underlying0
 a0:=Tryz.isAgg0
 z0:=Tryz.sizeOf0
 v0:=Tryz.zeroValue0
 t3:=Tryz.underlying3
 a3:=Tryz.isAgg3
 z3:=Tryz.sizeOf3
 v3:=Tryz.zeroValue3
 t4:=Tryz.underlying4
 a4:=Tryz.isAgg4
 z4:=Tryz.sizeOf4
 v4:=Tryz.zeroValue4
 t22:=aoB
 a22:=Tryz.isAgg23
 z22:=Tryz.sizeOf23
 v22:=Tryz.zeroValue23
 i3:=by kernel_rfl
namespace L5
def mO {a:Type} (b:X->a) (c:X):bn a:=(bL c).map b
def Tc {c:Type} (a:X->c) (b:X):mO a (b+1)=mO a b++[a b]:=by simp[mO,j5]
def afN {c:Type} (b:X->c) (a:X):(mO b a).length=a:=by simp[mO]
def afM (a:aj0):mO (λc=>a[c]?.getD 0) a.length=a:=by
 apply wJ
 ·simp[mO]
 intro e d b;simp[mO,b]
set_option maxRecDepth 100000 in
set_option maxHeartbeats 2000000 in
def afX (j:akX) (m:X) (A:j.fn 317) (K:j.round=bq) (T:1<=m) (v q n h k b x:X) (g:aj0) (U:b*8<=140737488351232) (F:h<n) (J r:aj0->bD->Prop) (E:∀e o c,J e c->e.length<b->YieldAt j (m-1) cn v #[.int .i64 o] c λi f=>
  (i=.returned (.bool bp)/\J (e++[o]) f/\Below n c f)\/(i=.returned (.bool br)/\r (e++[o]) f))
 (c:bD) (Q:c.cell? ⟨q,0,bq⟩=Y (.slice (Y ⟨h,k,bq⟩) b x)) (G:∀d,d<b->c.cell? ⟨h,k+d,bq⟩=Y (.int .i64 (g[d]?.getD 0))) (z:J [] c):
 akP j m cn 317 #[.func (.yield v) #[] #[],.pointer (Y ⟨q,0,bq⟩)] c λi f=>(∃L,i=.returned L)/\((∃w,w=mO (λd=>g[d]?.getD 0) b/\J w f)\/(∃e,(∃a,a<=b/\e=mO (λd=>g[d]?.getD 0) a)/\r e f)):=by
 refine alE anI bo A ?_ K;simp only[aoC,uk,jf,pF,alc,ald,ww,wx,wN,wG,jh,n1]
 gi_wp2
 gi_loopw [7] (λl wr=>∃a:X,a<=b/\l=.int .i64 a/\J (mO (λd=>g[d]?.getD 0) a) wr/\Below n c wr) (λl _=>b-(intOf l).toNat)
 case atStart=>exact⟨0,c5 _,bo,z,al2 _ _⟩
 case round=>
  obtain⟨a,S,rfl,s,u⟩:=hrel;have H:a<b->wr.cell? ⟨h,k+a,bq⟩=Y (.int .i64 (g[a]?.getD 0)):=λy=>(u.cell (p:=⟨h,k+a,bq⟩) F).trans (G a y);by_cases t:a<b
  ·obtain⟨P,ad,N,O,V,D⟩:=E _ (g[a]?.getD 0) wr s (by rw[afN];exact t);have R:=H t
   gi_wp2
   refine D.mono ?_;rintro i M (⟨rfl,B,I⟩|⟨rfl,C⟩)
   ·gi_wp2
    go_roundw
    case rel=>exact⟨a+1,aa,ac,by rw[Tc];exact B,u.trans I⟩
    case measure=>simp[intOf];omega
   gi_wp2
   refine bodyPost_ret (results_none bo _ _ _) rfl ?_;exact⟨⟨_,bo⟩,.inr ⟨_,⟨a+1,aa,(Tc _ _).symm⟩,C⟩⟩
  obtain rfl:a=b:=by omega
  gi_wp2
  go_end0
  exact⟨⟨_,bo⟩,.inl ⟨_,bo,s⟩⟩
def afO (a:aj0) {b:X} (d:b<=a.length):mO (λf=>a[f]?.getD 0) b=a.take b:=by
 apply wJ
 ·simp[mO,d]
 intro e c g;have:e<a.length:=(by simp[mO] at c;omega);simp[mO,this]
def py (i:X) (g:bD) (f:Value) (a:aj0):Prop:=
 (∃h c,f=.slice h 0 c/\a=[])\/∃b e c,f=.slice (Y ⟨b,e,bq⟩) a.length c/\b<i/\∀d,d<a.length->g.cell? ⟨b,e+d,bq⟩=Y (.int .i64 (a[d]?.getD 0))
def py.below {b:X} {c d:bD} (l:Below b c d) {i:Value} {j:aj0}:py b c i j->py b d i j
 |.inl a=>.inl a
 |.inr ⟨e,h,k,a,f,m⟩=>.inr ⟨e,h,k,a,f,λg n=>(l.cell (p:=⟨e,h+g,bq⟩) f).trans (m g n)⟩
set_option maxRecDepth 100000 in
set_option maxHeartbeats 1000000 in
def afY (a:akX) (n:X) (i:a.fn 317) (k:a.round=bq) (m c:X) (e:bw Addr) (f:X) (J:aj0->bD->Prop) (b:bD) (p:b.cell? ⟨c,0,bq⟩=Y (.slice e 0 f)) (h:J [] b):akP a n cn 317 #[.func (.yield m) #[] #[],.pointer (Y ⟨c,0,bq⟩)] b λg d=>(∃o,g=.returned o)/\J [] d:=by
 refine alE anI bo i ?_ k;simp only[aoC,uk,jf,pF,alc,ald,ww,wx,wN,wG,jh,n1]
 gi_wp2
 gi_loopw [7] (λl wr=>l=.int .i64 0/\J [] wr) (λ_ _=>0)
 case atStart=>exact⟨bo,h⟩
 case round=>
  obtain⟨rfl,j⟩:=hrel
  gi_wp2
  go_end0
  exact⟨⟨_,bo⟩,j⟩
set_option maxHeartbeats 1000000 in
def afZ (a:akX) (i:X) (g:a.fn 297) (h:a.round=bq) (c:bw Addr) (e d:X) (b:bD):akP a i cn 297 #[.slice c e d] b λf j=>f=.returned (.func (.func 317) #[] #[.pointer (Y ⟨b.heap.size,0,bq⟩)])/\j=b.alloc (.cells #[.slice c e d] 23):=by
 refine alE Tryz.func297 bo g ?_ h;simp only[Tryz.ntmps297,uk,jf,pF,alc,ald,ww,wx,wN,wG,jh,n1]
 gi_wp2
 go_ret
 exact⟨bo,bo⟩
def af0 (c:akX) (g:X) (l:c.fn 317) (o:c.round=bq) (G:1<=g) (b h:X) (s:Value) (a:aj0) (I:a.length*8<=140737488351232) (e:bD) (z:b<e.heap.size) (H:h<=e.heap.size) (D:e.cell? ⟨b,0,bq⟩=Y s) (A:py h e s a):SeqStopsK c g cn 317 #[.pointer (Y ⟨b,0,bq⟩)] (λL:Z=>#[akb .i64 L]) (Below h) (λt=>t=a) (λr=>r<+:a) a.length e:=λq J u j m _ _ B k=>by
 have n:=(m.cell (p:=⟨b,0,bq⟩) z).trans D;rcases A.below (m.mono H) with⟨w,i,rfl,rfl⟩|⟨x,K,i,rfl,C,E⟩
 ·exact(afY c g l o q b w i J j n k).mono λy v ⟨f,d⟩=>⟨f,.inl ⟨_,bo,d⟩⟩
 refine(afX c g l o G q b h x K a.length i a I C J u B j n E k).mono ?_;rintro y v ⟨f,⟨t,rfl,d⟩|⟨r,⟨M,F,rfl⟩,d⟩⟩
 ·exact⟨f,.inl ⟨_,afM a,d⟩⟩
 exact⟨f,.inr ⟨_,by rw[afO a F];exact List.take_prefix _ _,d⟩⟩
def XR:(cn.info? 3).map (λa=>(a.zero,a.size,a.bytes))=Y (Y (.int .i64 0),1,8):=by kernel_rfl
set_option maxRecDepth 100000 in
set_option maxHeartbeats 2000000 in
def UT (g:akX) (m:X) (E:g.fn 331) (u:g.fn 317) (q:g.round=bq) (a3:3<=m) (e:X) (r:Value) (f:aj0) (M:f.length*8<=140737488351232) (a:bD) (F:e<a.heap.size) (o:a.cell? ⟨e,0,bq⟩=Y r) (H:py a.heap.size a r f):akP g m cn 331 #[.slice bq 0 0,.func (.func 317) #[] #[.pointer (Y ⟨e,0,bq⟩)]] a λB t=>∃b,B=.returned b/\t.ownsRow a.heap.size 3 1 b f.length (f.map (akb .i64))/\(b=.slice bq 0 0↔f=[])/\Below a.heap.size a t:=by
 have D:1<=m:=aa;obtain⟨S,J,P,Q,R⟩:=info_parts XR;refine callsIn_of_wp_marks Tryz.func331 bo E ?_ q;simp only[Tryz.ntmps331,uk,jf,pF,alc,ald,ww,wx,wN,wG,jh,n1]
 gi_wp2
 have A:=aoD a 23 (.slice bq 0 0);have n:Below a.heap.size a (a.alloc (.cells #[.slice bq 0 0] 23)):=(al2 _ a).alloc (bd _) _;refine wpIn_rangeFunc_ownG q D (gf:=317) (lb:=#[.pointer (Y ⟨e,0,bq⟩)]) rfl u (enters_of anI (by kernel_rfl) rfl) (af0 g (m-1) u q aa e a.heap.size r f M _ (by simp;omega) ac ((n.cell (p:=⟨e,0,bq⟩) F).trans o) (H.below n)) belowK_t (belowK_b ac) (al2 _ _) (λ_=>rfl) (λc d=>(∃b,Boxed d a.heap.size 23 b/\d.ownsRow a.heap.size 3 1 b c.length (c.map (akb .i64))/\(b=.slice bq 0 0↔c=[]))/\Below a.heap.size a d) (λ_ _ _=>b7) (OwnFrom.and (Own.from (holdsRow_own a.heap.size a.heap.size 23 3 1 (λc=>c.length) (λc=>c.map (akb .i64)) (λc b=>b=.slice bq 0 0↔c=[])) _) (ownFrom_below (bd _) ac)) (λ_ _ _ _ _ N _ _=>N) ⟨⟨_,A,World.ownsRow_nil _ _ _ _,ac⟩,n⟩ (λj=>{tmps:=#[.slice bq 0 0,.func (.func 317) #[] #[.pointer (Y ⟨e,0,bq⟩)],.pointer (Y ⟨a.heap.size,0,bq⟩),bW,.slice bq 0 0,.int .i64 j,.func (.func 317) #[] #[.pointer (Y ⟨e,0,bq⟩)],.int .i64 j,bW,bW,bW,bW,bW],defers:=[]}) ?assign ?body ?done ?stop
 case assign=>
  intro T j d U i
  gi_wp2
  exact i
 case body=>
  rintro T c j d ⟨⟨b,l,k,x⟩,h⟩ a1;have o:=l.cell;have a0:f.length<=maxLen:=(by simp only[maxLen];omega);have an:f.length*8<=140737488355328:=by omega
  gi_wp2_with (gi_at_builtin;refine wpListIn_append_own _ rfl _ _ 23 bo a.heap.size 3 S (.int .i64 0) 1 8 aoB J P Q R bo ab _ _ _ rfl (k.alloc _) ⟨d.heap.size,0,bq⟩ 1 1 [.int .i64 j] rfl rfl (cell_one_new _ _ _) (by simp[akj]) aa aa (by have:=h.size;simp;omega) ?_;intro a4 bl y I _;obtain⟨am,ad,rfl⟩:=ownsRow_succ y;obtain⟨z,O,L,K,v⟩:=l.appended ab k h.size (bd _) y I;have ap:=z.cell;have av:=z.frozen)
  exact⟨K.from _,v,⟨_,O,by simpa using L,ac⟩,h.trans v⟩
 case done=>
  rintro s bs d G rfl ⟨⟨b,l,k,x⟩,h⟩ i;have o:=l.cell
  gi_wp2
  refine⟨ac,.inl ⟨_,_,bo,run_takeDeferred i,?_⟩⟩;exact⟨_,results_tmp bo _ _ _,b,bo,ownsRow_putObj k _ i bo,x,h.trans (belowK_b (w:=a) (bd _) d s _ _ (by simp at G;omega) i bo rfl)⟩
 case stop=>
  rintro s V c d _ _ C _;exact C.elim
set_option maxHeartbeats 1000000 in
def VK (b:akX) (f:X) (m:b.fn 315) (k:b.fn 331) (l:b.fn 317) (j:b.round=bq) (v:4<=f) (e:X) (g:Value) (c:aj0) (s:c.length*8<=140737488351232) (a:bD) (n:e<a.heap.size) (q:a.cell? ⟨e,0,bq⟩=Y g) (o:py a.heap.size a g c):akP b f cn 315 #[.func (.func 317) #[] #[.pointer (Y ⟨e,0,bq⟩)]] a λi h=>∃d,i=.returned d/\h.ownsRow a.heap.size 3 1 d c.length (c.map (akb .i64))/\(d=.slice bq 0 0↔c=[])/\Below a.heap.size a h:=by
 have u:1<=f:=aa;refine alE Tryz.func315 bo m ?_ j;simp only[Tryz.ntmps315,uk,jf,pF,alc,ald,ww,wx,wN,wG,jh,n1]
 gi_wp2_with (gi_at_call 331;refine(UT b (f-1) k l j aa e g c s _ n q o).mono ?_;rintro i w ⟨d,rfl,t,r,p⟩)
 go_ret
 exact⟨d,bo,t,r,p⟩
open Go.jt
theorem adY {M:dh->X->Prop} {f:bD} {k:X} {j:Value} {b:aj0} (s:f.ownsRow k 3 1 j b.length (b.map (akb .i64))):∃d,aT M f (.osl (.int .i64)) [j] b d/\d.Nodup/\∀h∈d,k<=h/\h<f.heap.size:=by
 rcases s.2 with⟨rfl,t⟩|⟨e,l,i,rfl,w,q,u,A,v,m⟩
 ·obtain rfl:=r7 t;exact⟨[],⟨bq,0,bo,.inl ⟨bo,bo,bo,bo⟩⟩,ac,ac⟩
 rw[alw] at v m;have o:∀a,a<l->f.cell? ⟨e,a,bq⟩=Y (i[a]?.getD bW)/\f.frozen? ⟨e,a,bq⟩=br:=λa c=>(by constructor<;>simp[ak6,amn,q,(aa:a<i.size)]);refine⟨[e],⟨Y ⟨e,0,bq⟩,l,bo,.inr ⟨e,0,bJ b.length [],bo,ac,ac,u,λa _ c=>?_,λg z d r p=>?_⟩⟩,ac,λh n=>?_⟩
 ·obtain⟨ay,y⟩:=o a (by simpa[akm] using c);exact⟨by rw[ay];rfl,y⟩
 ·have x:g<b.length:=(hN.1 r).1;obtain rfl:d=[]:=by
   rw[List.getElem?_replicate] at p;split at p<;>simp_all
  refine⟨[.int .i64 z],bo,λa j c=>?_,bo,bo⟩;cases a with
  |succ a=>simp at c
  |zero=>
   simp only[qA,eT] at c;subst c;simp only[akm,alw,mW,mV];rw[(o g aa).1];have:(i.toList.take b.length)[g]?=(b.map (akb .i64))[g]?:=(by rw[m]);rw[sb x,Cc,jI,r] at this;rw[this];rfl
 simp only[fg] at n;subst n;exact⟨w,(rV.1 q).1⟩
def XK {o:dh->X->Prop} {n:bD} {i:Value} {a:aj0} {k:ajZ} (g:aT o n (.osl (.int .i64)) [i] a k):(∃j b,i=.slice j 0 b/\a=[])\/∃c e b,i=.slice (Y ⟨c,e,bq⟩) a.length b/\a.length<=b/\Holds (akb .i64) n c e a.toArray/\k=[c]:=by
 obtain⟨j,b,m,g⟩:=g;simp only[hM,ca] at m;subst m;rcases g with⟨rfl,rfl,rfl,rfl⟩|⟨c,e,f,rfl,rfl,A,s,t,l⟩
 ·exact .inl ⟨bq,0,bo,bo⟩
 right;have u:f.flatten=[]:=by
  rw[List.flatten_eq_nil_iff];intro C x;obtain⟨h,B,rfl⟩:=hG.1 x;obtain⟨r,_,_,y⟩:=l h (a[h]'(by omega)) f[h] ac ac
  exact y.1
 refine⟨c,e,b,bo,s,λd v=>?_,by rw[u]⟩;have w:d<a.length:=(by simpa using v);obtain⟨r,z,p,_,q⟩:=l d a[d] (f[d]'(by omega)) ac ac
 subst q;have ay:=p 0 _ rfl;simp only[akm,alw,mV] at ay;exact⟨by rw[ay];simp[w],(t (e+d) aa (by simp only[akm];omega)).2⟩
def GP (E:fk) (c:aj0->ev):Prop:=∀b a,c b=Y a->rX E 316 [.m ⟨.osl (.int .i64),b⟩ a] []
set_option maxRecDepth 100000 in
set_option maxHeartbeats 2000000 in
def aeR (i:akX) (h:∀e,i.fn e) (z:i.round=bq) (N:∀(an:X) (e:FuncId) (v:ajR) (c:bD) (t:Ending->bD->Prop),Calls cn e v c t->akP i an cn e v c t) {E:fk} (H:E.P=cn) {B:aj0->ev} (ad:GP E B) (k:X) (a3:5<=k) (m:X) (r:Value) (l s:aj0) (am:B l=Y s) (U:l.length*8<=140737488351232) (c:bD) (I:lA E (λb=>b<c.heap.size) c) (G:m<c.heap.size) (L:c.cell? ⟨m,0,bq⟩=Y r) (J:py c.heap.size c r l):akP i k cn 296 #[.func (.func 317) #[] #[.pointer (Y ⟨m,0,bq⟩)]] c λp u=>∃g e C,p=.returned g/\aT C u (.osl (.int .i64)) [g] s e/\(∀b∈e,c.heap.size<=b)/\Below c.heap.size c u:=by
 have a1:1<=k:=aa;have a4:=h 315;have bl:=h 316;refine alE Tryz.func296 bo (h _) ?_ z;simp only[Tryz.ntmps296,uk,jf,pF,alc,ald,ww,wx,wN,wG,jh,n1]
 gi_wp2_with (first
  |(
   gi_at_call 315;refine(VK i (k-1) (h _) (h _) (h _) z aa m r l U _ G L J).mono ?_;rintro p D ⟨g,rfl,A,S,d⟩
   obtain⟨e,T,R,o⟩:=adY (M:=bb (λ_=>b7) (λ_=>b7)) A;have n:=ad l s am D (λb=>b<c.heap.size) (λ_=>b7) [g] [e] (λb a=>by rcases a with a|a;exact iT a d.size;exact a.elim) ⟨⟨[g],bo,T⟩,trivial⟩ (by simpa using R) (λb d=>⟨Nat.not_lt.2 (o b (by simpa using d)).1,λa=>a,(o b (by simpa using d)).2⟩) True.intro (I.mono (λ_ a=>a) λb a=>d.block b a);rw[H] at n;have n:=N (k-1) _ _ _ _ n;clear A S)
  |(gi_at_call 316;refine n.mono ?_;rintro p av ⟨ap,w,bs,cJ,rfl,f⟩))
 have O:∃j,w=[j]:=by
  have:=f.args
  match w,this with
  |[j],_=>exact⟨j,bo⟩
  |[],a=>exact a.elim
  |_::_::_,a=>exact a.2.elim
 obtain⟨j,rfl⟩:=O;obtain⟨a0,ao,y⟩:=f.args.1;have Q:=y.len;obtain⟨F,rfl⟩:=sc.1 Q;have ao:g=F:=ao;subst ao;have V:cJ=[]:=by
  have:=f.res
  match cJ,this with
  |[],_=>rfl
  |_::_,a=>exact a.elim
 subst V
 go_ret
 refine⟨g,j,_,bo,y,λb K=>?_,?_⟩
 ·have:=(f.MJ b (by simp[K])).2.2.2;rcases this with a|a
  ·exact di d.size a
  exact(o b (by simpa using a)).1
 exact⟨f.os.trans d.os,f.tape.trans d.tape,f.output.trans d.output,di d.size f.size,λq x=>(f.heap q (iT x d.size) (λa=>by have:=(o q (by simpa using a)).1;omega)).trans (d.block q x)⟩
def VR {j:dh->X->Prop} {b:bD} {B:X} {i:Value} {e:aj0} {h:ajZ} (n:aT j b (.osl (.int .i64)) [i] e h) (m:∀c∈h,B<=c) (r:e.length<=1000000):Calls cn 295 #[i] b (λf g=>∃d a,f=.returned (.slice d (akO e).length a)/\Below B b g):=by
 rcases XK n with⟨d,a,rfl,rfl⟩|⟨c,p,a,rfl,l,k,rfl⟩
 ·refine(Any.slices_Compact_int_empty Tryz.Pe d a b).mono ?_;rintro f g ⟨rfl,rfl⟩;exact⟨d,a,bo,al2 _ _⟩
 refine(Any.slices_Compact_int Tryz.Pe c p a e b k aa l).mono ?_;rintro f g ⟨rfl,s,rfl⟩;refine⟨_,a,bo,bo,bo,bo,by simp[putRow,mapBlock,aoE],λo q=>?_⟩;have:=m c ac;simp[putRow,mapBlock,aoE,Array.getElem?_modify,(aa:c≠o)]
set_option maxRecDepth 100000 in
set_option maxHeartbeats 2000000 in
def aft (g:akX) (i:∀k,g.fn k) (p:g.round=bq) (t:∀(S:X) (k:FuncId) (r:ajR) (a:bD) (q:Ending->bD->Prop),Calls cn k r a q->akP g S cn k r a q) {E:fk} (F:E.P=cn) {x:aj0->ev} (O:GP E x) (j:X) (av:7<=j) (c:bw Addr) (b e:X) (f m:aj0) (R:x f=Y m) (N:f.length=b) (a4:f.length<=1000000) (Q:m.length<=1000000) (a:bD) (G:lA E (λd=>d<a.heap.size) a) (H:py a.heap.size a (.slice c b e) f):akP g j cn 259 #[.slice c b e] a λh z=>h=.returned (.bool (bu ((akO m).length<f.length)))/\Below a.heap.size a z:=by
 have ap:1<=j:=aa;have a0:=i 297;have a1:=i 296;have a3:=i 295;generalize M:(akO m).length=an;refine alE Tryz.func259 bo (i _) ?_ p;simp only[Tryz.ntmps259,uk,jf,pF,alc,ald,ww,wx,wN,wG,jh,n1];have C:=aoD a 23 (.slice c b e);have n:Below a.heap.size a (a.alloc (.cells #[.slice c b e] 23)):=(al2 _ a).alloc (bd _) _;have I:py (a.alloc (.cells #[.slice c b e] 23)).heap.size (a.alloc (.cells #[.slice c b e] 23)) (.slice c b e) f:=by
  rcases H.below n with l|⟨d,T,D,h,o,L⟩
  ·exact .inl l
  exact .inr ⟨d,T,D,h,by simp;omega,L⟩
 have w:=aeR g i p t F O (j-1) aa a.heap.size (.slice c b e) f m R aa _ (G.mono (λd (l:d<a.heap.size)=>iT l n.size) λd l=>n.block d l) ac C.cell I
 gi_wp2_with (first
  |(gi_at_call 297;refine(afZ g (j-1) (i _) p c b e a).mono ?_;rintro h bs ⟨rfl,rfl⟩)
  |(gi_at_call 296;refine w.mono ?_;rintro h y ⟨bl,k,U,rfl,v,u,o⟩;have s:=t (j-1) _ _ _ _ (VR (B:=a.heap.size) v (λd J=>by have:=u d J;simp at this;omega) Q);rw[M] at s;have A:Below a.heap.size a y:=n.trans (o.mono ac);clear v u o w)
  |(gi_at_call 295;refine s.mono ?_;rintro h V ⟨ad,am,rfl,K⟩))
 go_ret
 exact⟨by rw[N];rfl,A.trans K⟩
def afq (c:aj0->ev):js:=⟨259,[.v (.a6 .c7 (.int .i64))],[.bool],λa=>(BX c a.1).map λb=>(b,())⟩
def afr {E:fk} (q:E.P=cn) {sort:aj0->ev} (K:GP E sort):aA E (afq sort):=by
 refine⟨λg f=>by rw[q];exact Tryz.call259 g f,?_⟩;rintro⟨d,_⟩ b c;have w:(BX sort d).map (λb=>(b,()))=Y b:=c;obtain⟨B,e,rfl⟩:=fl.1 w;clear c w;unfold BX at e;cases l:b3 d.length 1000000 with
 |false=>rw[l] at e;cases e
 |true=>
 rw[l] at e;obtain⟨s,M,e⟩:=eL.1 e;cases m:b3 s.length 1000000 with
 |false=>rw[m] at e;cases e
 |true=>
 rw[m] at e;have c:bu ((akO s).length<d.length)=B:=gb e;subst c;have l:=gL l;have m:=gL m;rintro f t A g k u h an am _hself;have h:mx (y3 t A f) [.v ⟨.a6 .c7 (.int .i64),d⟩] g k:=h;obtain⟨p,j,rfl,rfl⟩:∃p j,g=[p]/\k=[j]:=by
  cases g with
  |nil=>exact h.elim
  |cons p g=>
   cases k with
   |nil=>exact h.elim
   |cons j k=>
    have a:=h.2;cases g with
    |nil=>cases k with
     |nil=>exact⟨p,j,bo,bo⟩
     |cons=>exact a.elim
    |cons=>exact a.elim
 obtain⟨⟨rfl,S,rfl,J⟩,_⟩:=h;obtain⟨_,o,i,rfl,ad,ap,I⟩:=J;have G:py f.heap.size f (.slice o d.length i) d:=by
  rcases I with a|⟨b,O,rfl,H,L⟩
  ·exact .inl ⟨o,i,by rw[show d=[] from a];rfl,a⟩
  refine .inr ⟨b,O,i,bo,u b H,λy x=>?_⟩;obtain⟨U,T,C,_,D⟩:=L y d[y] (by simp[x]);subst D;have z:=C 0 _ rfl;simp only[akm,alw,mV] at z;rw[z];simp[x]
 intro F;have a:=aft Fence.wide (λ_=>trivial) rfl (λN j R f Q a=>(callsIn_wide (n:=N)).2 a) q K 10 aa o d.length i d s M bo l m f (F.mono (λb a=>u b (.inl a)) λ_ _=>rfl) G;have a:=callsIn_wide.1 a;show Calls E.P 259 #[.slice o d.length i] f _;rw[q];refine a.mono ?_;rintro V av ⟨rfl,c⟩;refine⟨t,[[]],[[]],[.bool _],bo,⟨⟨bo,trivial⟩,⟨⟨[.bool _],bo,bo,bo⟩,trivial⟩,ac,ac,λ_ a=>a,λ_ a=>.inl a,c.size,c.os,c.tape,c.output,λb r=>.of_heap (c.block b r),λb r _=>c.block b r⟩⟩
end L5
end Go.Proofs
end
end
