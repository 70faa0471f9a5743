/-
  Parts of the proof: Fw25, Fw36, Fw46, Fw47, Pl1, Fs, Dn20, Dn21, TwS, Dn20b, Dn22, Dn24a, Dn24, Dn25, Dn25b, Dn25c, Dn41, Tw41, Ok41, Pa1, Pl2: the framework (Fw), pure forms (Dn), plain laws (Pl, Th), calls of functions (Ok).
-/
import Derived.ProofKit
import Derived.Handed
import Derived.KernelRfl
import Derived.Lib.SlicesCompact
import Derived.RangeFuncBox
import Derived.RangeFuncLeaves
import Derived.Shelf.Abstract
import Derived.WalkKit
import Derived.OwnWalkIn
import Derived.TacticsInMore
import Derived.LoopNIn
import Derived.LoopIn
import Derived.Maps.AppendAt
import Derived.Shelf.Slices.CompactI
import Derived.Lib.OwnBridge
import Derived.Test.YthlmgdleldkpnaaGreatDoorProg
import Derived.Test.YthlmgdleldkpnaaGreatDoorBeb5debd5

set_option linter.all false
set_option maxHeartbeats 1000000
open _root_ renaming Nat->X,List->bp,Int->Z,rfl->bq,and_self->amL,Option->bv,cond_true->bI,congrArg->b9,Array->bW,Bool->bD,if_true->cq,False->b7,Unit->bz,cond->bB,and_true->cf
open Go renaming World->bF,ResultVar->amB,TypeId->bH,Exit->b8,Code->cx,Oper->bU,Program->b2,Field->amS,Addr->ck,MemPlace->aof,Fence->anC,CallsIn->anr,callsIn_of_wp->aok,undef->bY
open Option renaming none->br,some->Y,bind_eq_some_iff->anW,bind->bE
open Nat renaming beq->bL,blt->cg,ble->b5,reduceAdd->amC,reduceSub->anD,mul_one->aoc,min_eq_left->aoL
open List renaming length->cE,range->bK,getElem?_eq_none->aoi,getElem?_eq_getElem->bZ,replicate->bM,ext_getElem->aoJ,length_cons->aqn,length_take->am5,take_add_one->amG
open Option.some renaming inj->am0,injEq->anV
open Bool renaming true->bt,false->bu
open ByteArray renaming empty->ao2
open Go.Program renaming cellsOf->arj
open Go.Addr renaming add->api
open Go.World renaming cell?->anR,frozen?->ao5
open Go.DataW renaming trod->aqj,TrodAll->aoh
open Go.j5.ak renaming size->amW
open Go.Value renaming okWide->aog,bool->arn,int->amJ,oneCell'->amQ
open Go.WideShapes renaming okWide_int->asi,okWide_bool->asj,okWide_string->asl,okWide_slice->asm
open Go.ChangeShapes renaming trodAll_cons->aqk,trodAll_mk1->aso,trodAll_append->asp
open Go.j5.dm renaming refl->cu
open Go.WideElems renaming Trod_stays->asn
open Array renaming toArray_toList->ark
open Go.MemPlace renaming cell->arl
open Decidable renaming decide->bw
open Go.IntKind renaming i64->bN,wrap->aoj,u64->bG,u32->ch,u8->aql
open Go.Lib renaming compact->anq
open Go.Proofs.Tryz renaming prog->ct,underlying23->aro,func323->aqm,ntmps323->arp,func251->apj
open Go.RowKit.Below renaming refl->aoK
open Go.Boxed renaming new->arq
open Go.Sort renaming ahead->ars
open Int renaming le_refl->anE
noncomputable section
namespace Go.j5
variable{a:X}{b:amv}{c:bp hB}{d:bp ak}{e:Z}{f:Type}{g:Value}{h:bF}{i:bp amB}{j:eM->X->Prop}{k:Func}{l:X->Prop}
section
def od:X->(f:bp hB)->hJ f->bp (X×ao)
 |_,[],_=>[]
 |k,.v g::b,a=>(k,.val g a.1)::od (k+1) b a.2
 |k,.m _::b,a|k,.o _::b,a=>(k,.ref k [])::od (k+1) b a.2
 |k,.c e h::b,a=>(k,.eG e ((jG h a.1).map λd=>.val d.1 d.2))::od (k+1) b a.2
 |k,.n::b,a=>(k,.eI (.slice br 0 0))::od (k+1) b a.2
 |k,.w _::b,a=>(k,.view k [] a.1.2.1 a.1.2.2)::od (k+1) b a.2
 |k,.s _ _::b,a=>od (k+1) b a.2
def oe:X->(e:bp hB)->hJ e->bp (X×aI)
 |_,[],_=>[]
 |k,.v _::b,a=>oe (k+1) b a.2
 |k,.m d::b,a|k,.o d::b,a=>(k,⟨d,a.1⟩)::oe (k+1) b a.2
 |k,.c _ _::b,a|k,.n::b,a=>oe (k+1) b a.2
 |k,.w f::b,a=>(k,⟨.osl f,a.1.1⟩)::oe (k+1) b a.2
 |k,.s _ _::b,a=>oe (k+1) b a.2
def kp:X->bp hB->amu
 |_,[]=>[]
 |k,.m _::a=>k::kp (k+1) a
 |k,.v _::a|k,.o _::a|k,.c _ _::a|k,.n::a=>kp (k+1) a
 |k,.w _::a=>k::kp (k+1) a
 |k,.s _ _::a=>kp (k+1) a
def If {r:Type}:∀{k:X} {ps:bp hB} {a:hJ ps} {b:jd ps r},ko k (gX ps a b)=od k ps a/\kX k (gX ps a b)=oe k ps a/\h8 k (gX ps a b)=kp k ps/\(gX ps a b).length=ps.length
 |k,[],a,b=>⟨bq,bq,bq,bq⟩
 |k,i::h,a,b=>by
  have g:=λa b=>If (r:=r) (k:=k+1) (ps:=h) (a:=a) (b:=b);cases i
  case m=>
   obtain⟨c,d,e,f⟩:=g a.2 b.2;simp only[gX,ko,kX,h8,od,oe,kp,iK,c,d,e,f,amL]
  case w=>
   obtain⟨c,d,e,f⟩:=g a.2 b.2;simp only[gX,ko,kX,h8,od,oe,kp,iK,c,d,e,f,amL]
  all_goals obtain⟨c,d,e,f⟩:=g a.2 b;simp only[gX,ko,kX,h8,od,oe,kp,iK,c,d,e,f,amL]
def GS (tt:bp (bH×ak)) (e:aR) (b:ak):amB->bv (b.den×amu)
 |.tmp k=>match gt e.g k with
  |.val _ l=>(il b l).bind λa=>Y (a,[])
  |.eI f=>bif qY b f then(jm b f.cells.toList).bind λa=>Y (a,[]) else br
  |.ref id d=>match ax e.h id with
   |some c=>(ip c.1 c.2 d b).bind λa=>Y (a,[id])
   |none=>br
  |_=>br
 |.cell j i=>match ax tt i with
  |some m=>bif bg m b then match gt e.g j with
   |.ref id d=>match ax e.h id with
    |some c=>match fE c.1 d with
     |some (.optr _)=>(ip c.1 c.2 (d++[.deref]) b).bind λa=>Y (a,[id])
     |_=>br
    |none=>br
   |_=>br else br
  |none=>br
def GR (tt:bp (bH×ak)) (c:aR):bp amB->(a:bp ak)->bv (lR a×amu)
 |[],[]=>Y ((),[])
 |r::f,e::a=>bif e.gr then(GS tt c e r).bind λd=>(GR tt c f a).map λb=>((d.1,b.1),d.2++b.2) else br
 |_,_=>br
theorem agm {E:fP} {f:aR} {c:ak} {b:amB} {d:c.den×amu} (a:GS E.tt f c b=Y d):tn E.P f ⟨c,d.1⟩ b d.2:=by
 cases b with
 |tmp b=>
  simp only[GS] at a;simp only[tn];split at a
  ·grind [kY,anW]
  ·grind [anW,qY.ok]
  ·grind [jo,anW]
  grind
 |cell j h=>
  simp only[GS] at a;simp only[tn];split at a
  case h_2=>cases a
  rename_i g i;cases e:bg g c with
  |false=>grind
  |true=>
  rw[e] at a;refine⟨(E.ok h g i).lay e,?_⟩;simp only[bI] at a;grind [jo,anW]
theorem S8 {E:fP} {f:aR}:∀{d:bp amB} {c:bp ak} {b:lR c×amu},GR E.tt f d c=Y b->vp E.P f d (jG c b.1) b.2
 |[],[],b,a=>by cases a;rfl
 |[],_::_,b,a|_::_,[],b,a=>by cases a
 |r::d,k::c,b,a=>by
  simp only[GR] at a;cases e:k.gr with
  |false=>grind
  |true=>
  rw[e] at a;simp only[bI] at a;obtain⟨j,h,a⟩:=e3.1 a;obtain⟨i,g,rfl⟩:=fQ.1 a;exact⟨e,j.2,i.2,bq,agm h,S8 g⟩
def qa (
 st:aR) {t:Type} (d:bv t):X->(r:bp hB)->hJ r->bv (jd r t)
 |_,[],_=>d
 |k,.v _::b,a|k,.o _::b,a|k,.c _ _::b,a|k,.n::b,a|k,.s _ _::b,a=>qa st d (k+1) b a.2
 |k,.m l::b,a=>bif tA (.ref k []) (gt st.g k)&&(l.gr&&s5 l) then match ax st.h k with
  |some j=>match il l j.2 with
   |some e=>(qa st d (k+1) b a.2).map λi=>(e,i)
   |none=>br
  |none=>br else br
 |k,.w f::b,a=>match gt st.g k with
  |.view u [] q p=>bif bL k u&&f.gr then match ax st.h k with
   |some j=>match il (.osl f) j.2 with
    |some e=>bif bL q a.1.2.1&&(bL p a.1.2.2&&(bL (cE (α:=f.den) e) (cE (α:=f.den) a.1.1)&&cg q p)) then(qa st d (k+1) b a.2).map λi=>(e,i) else br
    |none=>br
   |none=>br else br
  |_=>br
theorem uC {y:aR} {C:Type} {B:bv C}:∀{k:X} {ps:bp hB} {a:hJ ps} {d:jd ps C},qa y B k ps a=Y d->qG y k (gX ps a d)/\B=Y (iR ps d)
 |k,[],a,d,b=>⟨trivial,b⟩
 |k,.v _::e,a,d,b|k,.o _::e,a,d,b|k,.c _ _::e,a,d,b|k,.n::e,a,d,b|k,.s _ _::e,a,d,b=>uC (ps:=e) b
 |k,.m E::e,a,d,b=>by
  simp only[qa] at b;cases f:(tA (.ref k []) (gt y.g k)&&(E.gr&&s5 E)) with
  |false=>grind
  |true=>
  rw[f] at b;simp only[cJ] at f;simp only[bI] at b;split at b
  case h_2=>cases b
  rename_i J t;split at b
  case h_2=>cases b
  rename_i D u;obtain⟨I,r,rfl⟩:=fQ.1 b;obtain⟨j,l⟩:=uC (a:=a.2) r;refine⟨⟨⟨(tA.ok f.1).symm,?_,f.2.1,f.2.2⟩,j⟩,l⟩;rw[t];exact b9 Y (kY u)
 |k,.w z::e,a,d,b=>by
  simp only[qa] at b;split at b
  case h_2=>cases b
  rename_i H x q G;cases f:(bL k H&&z.gr) with
  |false=>grind
  |true=>
  rw[f] at b;simp only[cJ] at f;obtain rfl:=fJ f.1;simp only[bI] at b;split at b
  case h_2=>cases b
  rename_i J t;split at b
  case h_2=>cases b
  rename_i D u;cases p:(bL x a.1.2.1&&(bL q a.1.2.2&&(bL (cE (α:=z.den) D) (cE (α:=z.den) a.1.1)&&cg x q))) with
  |false=>grind
  |true=>
  rw[p] at b;simp only[cJ] at p;obtain⟨h,i,F,A⟩:=p;have h:=fJ h;have i:=fJ i;have A:x<q:=ha A;obtain⟨I,r,rfl⟩:=fQ.1 b;obtain⟨j,l⟩:=uC (a:=a.2) r;refine⟨⟨⟨by rw[G,h,i],?_,⟨f.2,aa⟩,fJ F⟩,j⟩,l⟩;rw[t];exact b9 Y (kY u)
def FD (tt:bp (bH×ak)) (a:bp hB) (f:bp amB) (d:bp ak) (e:hJ a) (c:aR):bv (jd a (lR d)):=
 match GR tt c f d with
 |some b=>bif kh (kp 0 a++b.2) then qa c (Y b.1) 0 a e else br
 |none=>br
theorem Pz {E:fP} {j:aR} {e:hJ c} {f:jd c (lR d)} {g:b8} (m:g=.normal\/g=.ret) (b:FD E.tt c i d e j=Y f):M4 E.P (gX c e f) i (jG d (iR c f)) g j:=by
 unfold FD at b;split at b
 case h_2=>cases b
 rename_i h o;cases l:kh (kp 0 c++h.2) with
 |false=>grind
 |true=>
 rw[l] at b;simp only[bI] at b;obtain⟨k,n⟩:=uC (a:=e) b;refine⟨m,h.2,?_,?_,k⟩
 ·grind [S8,am0]
 simp_all [If]
def PA (tt:bp (bH×ak)) (a:bp hB) (e:bp amB) (c:bp ak) (d:hJ a):b8->aR->bv (jd a (lR c))
 |.normal,b|.ret,b=>FD tt a e c d b
 |_,_=>br
def yA (c:g9) (e:m1) (f:cx) (a:bp hB) (g:bp amB) (d:bp ak) (b:hJ a):bv (jd a (lR d)):=
 h6 c e f ⟨od 0 a b,oe 0 a b⟩ _ (PA c.tt a g d b)
section
variable {E:fP}
def aH.Dw {b e:hJ c->bv (jd c (lR d))} (h:aH E ⟨a,c,d,b⟩) (g:∀f,b f=e f):aH E ⟨a,c,d,e⟩:=
 (funext g:b=e)▸h
theorem aH.RA {h:X} {f:Func} {e:bp hB} {j:hJ e->bv (jd e (lR d))} (n:bp (X×jO)) (r:bp (X×ak)) (o:amw) (w:m1) (aA:eC) (F:∀v∈aA,zF E.P v) (D:E.P.funcs[h]?=Y f) (O:f.body.isSome=bt) (I:f.results=i.toArray) (R:b5 e.length f.ntmps=bt) (C:∀(s:eB) (t:bF),(callFunc h s).run E.P t=.ok (.enter h s) t) (J:∀K∈n,aH E K.2) (A:∀g,yA ⟨E.tt,n,r,f.ntmps,kp 0 e++nU (jJ 0 e),[],o,jJ 0 e,aA,[],E.glob,E.eqs⟩ w (f.body.getD .skip) e i d g=j g):aH E ⟨h,e,d,j⟩:=by
 refine⟨C,λg u p=>?_⟩;rw[show(jO.mk h e d j).sem g=j g from rfl,<-A g] at p;obtain⟨ar,y,z,N⟩:=If (k:=0) (ps:=e) (a:=g) (b:=u);refine s9.abv D (c:=f.body.getD .skip) (by cases Q:f.body with|none=>grind|some L=>rfl) I ag ?_;intro M B l H q G;rw[ar,y];rw[Cq] at l q;rw[z] at l;refine mM (ic:=⟨E.tt,n,r,f.ntmps,kp 0 e++nU (jJ 0 e),[],o,jJ 0 e,aA,[],E.glob,E.eqs⟩) ⟨bq,B.symm,l.symm,⟨J,q,F,G,bq,bq⟩,qs.nil H⟩ p ?_;intro x S m;cases x with
 |normal=>exact Pz (.inl bq) m
 |ret=>exact Pz (.inr bq) m
 |_=>cases m
def aH.of {fn:Func} {rs:bp amB} {j:hJ c->bv (jd c (lR d))} (e:bp (X×jO)) (i:bp (X×ak)) (h:amw) (g:m1) (o:E.P.funcs[a]?=Y fn) (m:fn.body.isSome=bt) (q:fn.results=rs.toArray) (p:b5 c.length fn.ntmps=bt) (n:∀(k:eB) (l:bF),(callFunc a k).run E.P l=.ok (.enter a k) l) (r:∀s∈e,aH E s.2) (b:∀f,yA ⟨E.tt,e,i,fn.ntmps,kp 0 c++nU (jJ 0 c),[],h,jJ 0 c,[],[],E.glob,E.eqs⟩ g (fn.body.getD .skip) c rs d f=j f):aH E ⟨a,c,d,j⟩:=
 aH.RA e i h g [] (λ_ b=>by cases b) o m q p n r b
def G3:cx->cx
 |.seq a _=>a
 |c=>c
def TN:cx->cx
 |.seq _ a=>a
 |c=>c
def wO (a:X):cx->bv (bW bU)
 |.region d e _=>if d=a then Y e else br
 |.seq b c=>(wO a b).orElse λ_=>wO a c
 |.cond _ b c=>(wO a b).orElse λ_=>wO a c
 |.block _ b|.loop b=>wO a b
 |_=>br
def Kc {b:g9} {k:Type} {c:bW bU} {f:amu} {d:aR->bv k}:∀(j:amu) (g:aR),lN b c (j++f) g d=lN b c j g λa=>lN b c f a d
 |[],g=>rfl
 |i::e,g=>by
  have h:(λa=>lN b c (e++f) a d)=λa=>lN b c e a λa=>lN b c f a d:=funext λa=>Kc e a;simp only[kR,lN];split
  ·rfl
  split
  ·rw[h]
  simp only[h,Kc e]
def Zd {b:b2} {tt:bp (bH×ak)} (i:∀c f,ax tt c=Y f->fD b f c) {a:vr} {S:bH} (g:b.underlying a.T=Y (.array a.xs.length S)) (h:ax tt S=Y (.int a.k)):∀e∈[a],Nk b e:=λe d=>by rw[gI] at d;subst d;exact⟨S,g,i _ _ h⟩
def Ui:∀b∈([]:bp (X×jO)),aH E b.2:=λ_ a=>by cases a
theorem ahK {c:jO} {d:bp (X×jO)} (f:aH E c) (g:∀b∈d,aH E b.2):∀b∈(a,c)::d,aH E b.2:=λb e=>by grind
end
def w7:Value->Value->bD
 |.int c a,.int d b=>if c=d/\a=b then bt else bu
 |.bool a,.bool b=>a==b
 |.string a,.string b=>a.data.toList.isEmpty&&b.data.toList.isEmpty
 |.slice br 0 0,.slice br 0 0|.map br,.map br|.pointer br,.pointer br|.nilFunc,.nilFunc=>bt
 |_,_=>bu
def Wr {a:ByteArray} (c:a.data.toList.isEmpty=bt):a=ao2:=by
 cases a with|mk b=>cases b with|mk d=>cases d with
  |nil=>rfl
  |cons=>cases c
theorem w7.ok {b:Value} (a:w7 g b=bt):g=b:=by
 unfold w7 at a;split at a
 ·grind
 ·rw[beq_iff_eq.1 a]
 ·simp_all [Wr,cJ]
 ·rfl
 ·rfl
 ·rfl
 ·rfl
 cases a
def w8:amo->amo->bD
 |[],[]=>bt
 |a::c,b::d=>w7 a b&&w8 c d
 |_,_=>bu
theorem w8.ok:∀{c d:amo},w8 c d=bt->c=d
 |[],[],_=>rfl
 |[],_::_,b|_::_,[],b=>by cases b
 |a::c,e::d,b=>by simp only[w8,cJ] at b;rw[w7.ok b.1,w8.ok b.2]
def ke (b:b2) (c:bH) (d:X) (f:Value):bD:=match b.info? c with
 |some a=>bL a.size 1&&b5 a.bytes d&&(match a.zero with|some e=>w7 e f|none=>bu)
 |none=>bu
theorem ke.ok {d:b2} {e:bH} {f:X} {g:Value} (b:ke d e f g=bt):∃a,d.info? e=Y a/\a.size=1/\a.bytes<=f/\a.zero=Y g:=by
 unfold ke at b;split at b
 case h_2=>cases b
 rename_i a j;simp only[cJ] at b;obtain⟨⟨h,i⟩,c⟩:=b;split at c
 case h_2=>cases c
 rename_i l k;exact⟨a,j,fJ h,ha i,by rw[k,w7.ok c]⟩
mutual
def ih (b:b2):ak->bH->bD
 |.int g,a=>ke b a 24 (.int g 0)&&(match b.underlying a with|some (.int j)=>if j=g then bt else bu|_=>bu)
 |.bool,a=>ke b a 24 (.bool bu)&&(match b.underlying a with|some .bool=>bt|_=>bu)
 |.str,a=>ke b a 24 (.string ao2)&&(match b.underlying a with|some .string=>bt|_=>bu)
 |.bc _ c,a=>ke b a 24 (.slice br 0 0)&&(match b.underlying a with|some (.slice d)=>ih b c d|_=>bu)
 |.osl c,a=>ke b a 24 (.slice br 0 0)&&(match b.underlying a with|some (.slice d)=>ih b c d|_=>bu)
 |.ptr _ c,a=>ke b a 24 (.pointer br)&&(match b.underlying a with|some (.pointer d)=>ih b c d|_=>bu)
 |.optr c,a=>ke b a 24 (.pointer br)&&(match b.underlying a with|some (.pointer d)=>ih b c d|_=>bu)
 |.mp c,a=>ke b a 24 (.map br)&&(match b.underlying a with|some (.map e d)=>(match b.underlying e with|some (.int .i64)=>ih b c d|_=>bu)|_=>bu)
 |.fd _ c,a=>ke b a 24 (.map br)&&(match b.underlying a with|some (.map e d)=>(match b.underlying e with|some (.int .i64)=>ih b c d|_=>bu)|_=>bu)
 |.fn _ _,a=>ke b a 24 .nilFunc&&(match b.underlying a with|some (.func _ _ _)=>bt|_=>bu)
 |.st c,a=>cg 0 c.size&&match b.info? a with
  |some f=>bL f.size c.size&&b5 f.bytes (24*c.size)&&(match f.zero with
   |some (.agg h)=>bL h.size c.size&&(match b.underlying a with|some (.struct i)=>ug b c i.toList 0 h.toList|_=>bu)
   |_=>bu)
  |none=>bu
 |_,_=>bu
def ug (c:b2):ak->bp amS->X->amo->bD
 |.pr a f,d::h,e,b=>bL d.offset e&&ih c a d.type&&cg 0 a.size&&(match c.info? d.type with|some g=>(match g.zero with|some i=>w8 (b.take a.size) i.cells.toList|none=>bu)|none=>bu)&&ug c f h (e+a.size) (b.drop a.size)
 |.nil,[],_,b=>b.isEmpty
 |_,_,_,_=>bu
end
mutual
theorem ih.ok {m:b2}:∀{n:ak} {h:bH},ih m n h=bt->fD m n h
 |.int y,h,a=>by
  simp only[ih,cJ] at a;obtain⟨c,b⟩:=a;obtain⟨e,aB,f,g,bj⟩:=ke.ok c;split at b
  ·rename_i z d;split at b
   ·rename_i o;subst o;exact⟨e,aB,f,g,bj,d⟩
   grind
  grind
 |.bool,h,a=>by
  simp only[ih,cJ] at a;obtain⟨c,b⟩:=a;obtain⟨e,aB,f,g,bj⟩:=ke.ok c;split at b
  ·rename_i d;exact⟨e,aB,f,g,bj,d⟩
  grind
 |.str,h,a=>by
  simp only[ih,cJ] at a;obtain⟨c,b⟩:=a;obtain⟨e,aB,f,g,bj⟩:=ke.ok c;split at b
  ·rename_i d;exact⟨e,aB,f,g,bj,d⟩
  grind
 |.bc _ j,h,a=>by
  simp only[ih,cJ] at a;obtain⟨c,b⟩:=a;obtain⟨e,aB,f,g,bj⟩:=ke.ok c;split at b
  ·rename_i i d;exact⟨e,i,aB,f,g,bj,d,ih.ok b⟩
  grind
 |.osl j,h,a=>by
  simp only[ih,cJ] at a;obtain⟨c,b⟩:=a;obtain⟨e,aB,f,g,bj⟩:=ke.ok c;split at b
  ·rename_i i d;exact⟨e,i,aB,f,g,bj,d,ih.ok b⟩
  grind
 |.ptr _ j,h,a=>by
  simp only[ih,cJ] at a;obtain⟨c,b⟩:=a;obtain⟨e,aB,f,g,bj⟩:=ke.ok c;split at b
  ·rename_i i d;exact⟨e,i,aB,f,g,bj,d,ih.ok b⟩
  grind
 |.optr j,h,a=>by
  simp only[ih,cJ] at a;obtain⟨c,b⟩:=a;obtain⟨e,aB,f,g,bj⟩:=ke.ok c;split at b
  ·rename_i i d;exact⟨e,i,aB,f,g,bj,d,ih.ok b⟩
  grind
 |.mp j,h,a=>by
  simp only[ih,cJ] at a;obtain⟨c,b⟩:=a;obtain⟨e,aB,f,g,bj⟩:=ke.ok c;split at b
  ·rename_i k i d;split at b
   ·rename_i l;exact⟨e,k,i,aB,f,g,bj,d,l,ih.ok b⟩
   grind
  grind
 |.fd _ j,h,a=>by
  simp only[ih,cJ] at a;obtain⟨c,b⟩:=a;obtain⟨e,aB,f,g,bj⟩:=ke.ok c;split at b
  ·rename_i k i d;split at b
   ·rename_i l;exact⟨e,k,i,aB,f,g,bj,d,l,ih.ok b⟩
   grind
  grind
 |.fn _ _,h,a=>by
  simp only[ih,cJ] at a;obtain⟨c,b⟩:=a;obtain⟨e,aB,f,g,bj⟩:=ke.ok c;split at b
  ·rename_i u v w d;exact⟨e,u,v,w,aB,f,g,bj,d⟩
  grind
 |.st j,h,a=>by
  simp only[ih,cJ] at a;obtain⟨q,a⟩:=a;split at a
  case h_2=>cases a
  rename_i e s;simp only[cJ] at a;obtain⟨⟨c,b⟩,a⟩:=a;split at a
  case h_2=>cases a
  rename_i x t;simp only[cJ] at a;obtain⟨r,a⟩:=a;split at a
  case h_2=>cases a
  rename_i p d;exact⟨ha q,e,p,x,s,fJ c,ha b,t,d,ug.ok a,fJ r⟩
 |.pr _ _,_,a|.nil,_,a|.eO,_,a=>by cases a
theorem ug.ok {f:b2}:∀{g:ak} {b:bp amS} {d:X} {c:amo},ug f g b d c=bt->je f g b d c
 |.pr h i,[],d,c,a=>by cases a
 |.pr h i,r::s,d,c,a=>by
  simp only[ug,cJ] at a;obtain⟨⟨⟨⟨j,k⟩,l⟩,e⟩,m⟩:=a;split at e
  case h_2=>cases e
  rename_i p n;split at e
  case h_2=>cases e
  rename_i q o;exact⟨fJ j,ih.ok k,ha l,⟨p,q,n,o,w8.ok e⟩,ug.ok m⟩
 |.nil,[],d,c,a=>by have a:c=[]:=(by grind [ug]);exact a
 |.nil,_::_,d,c,a=>by cases a
 |.int _,b,d,c,a=>by cases b<;>cases a
 |.bool,b,d,c,a=>by cases b<;>cases a
 |.str,b,d,c,a=>by cases b<;>cases a
 |.bc _ _,b,d,c,a=>by cases b<;>cases a
 |.ptr _ _,b,d,c,a=>by cases b<;>cases a
 |.osl _,b,d,c,a=>by cases b<;>cases a
 |.optr _,b,d,c,a=>by cases b<;>cases a
 |.st _,b,d,c,a=>by cases b<;>cases a
 |.eO,b,d,c,a=>by cases b<;>cases a
end
theorem Uu {e:b2}:∀{tt:bp (bH×ak)},(tt.all λf=>ih e f.2 f.1)=bt->∀a b,ax tt a=Y b->fD e b a
 |[],_,_,_,c=>by cases c
 |(k,g)::r,c,a,b,d=>by
  simp only[tc,cJ] at c;rw[eJ] at d;split at d
  ·grind [ih.ok]
  exact Uu ae a b d
def JC (a:b2):eC->bD
 |[]=>bt
 |T::d=>!a.stoodInHeld T&&(!a.eqGuardType a.depth T&&((match a.underlying T with|some (.struct c)=>c.toList.all λb=>b.name !="_"|_=>bu)&&JC a d))
def Po {e:b2}:∀{d:eC},JC e d=bt->∀b∈d,M3 e b
 |[],_,b,a=>by cases a
 |U::d,f,b,a=>by
  simp only[JC,cJ,uY] at f;obtain⟨h,i,c,j⟩:=f;rcases fH.1 a with rfl|a
  ·split at c
   ·rename_i g k;exact⟨h,i,g,k,c⟩
   cases c
  exact Po j b a
end
section
def qJ:(i:ak)->i.den->Prop
 |.int g,h=>(Lit.int g h).wf=bt
 |.bc _ b,c=>c.length<=maxLen/\∀a∈c,qJ b a
 |.ptr _ b,a=>∀d,a=Y d->qJ b d
 |.st b,a=>qJ b a
 |.pr e f,a=>qJ e a.1/\qJ f a.2
 |_,_=>True
def tz:ak->bD
 |.int _|.bool|.str|.nil=>bt
 |.bc _ a|.ptr _ a|.st a=>tz a
 |.pr b c=>tz b&&tz c
 |_=>bu
def IB {P:b2} {c:ak} {a:bH} (d:fD P c a):P.cellsOf a=c.size:=by obtain⟨f,e,b,_⟩:=d.info;unfold arj;rw[b.info];simp[b.size]
section
variable {A:Type} {enc:bH×Value->A} {P:b2} {w:bF}
theorem IC {g:X} {b:ck} {cs:amo} (c:w.cells? g b a=Y cs) (e:0<a):b.spot=br/\cs.length=a/\b.block<w.heap.size/\fG w b.block b.off cs:=by
 have k:=World.cells?_block c e;obtain⟨_,j,d⟩:=World.cells?_some c;have l:b.spot=br:=by
  have n:=d 0 e;have:(w.cell? (b.add 0)).isSome=bt:=ae;simp only[api,cq] at this;unfold anR at this;split at this
  ·cases o:b.spot with
   |none=>rfl
   |some s=>grind
  grind
 refine⟨l,j,k,λf r h=>?_⟩;have i:f<a:=ae;have:=d f i;rw[h] at this;rw[<-this];congr 1;unfold api;obtain⟨m,p,q⟩:=b;grind
def C6 (w:bF):eM->X->Prop:=λ_ a=>a<w.heap.size
mutual
theorem Hl:∀{τ:ak} {i:bH} {cs:amo} {k:X} {n:DataW A×bp aof},tz τ=bt->fD P τ i->aqj enc P w 0 (λ_=>bt) bt k i cs=Y n->∃a:τ.den,aW (C6 w) w τ cs a []/\qJ τ a
 |.int m,i,cs,k,n,_,⟨b,_,_,_,_,h⟩,d=>by obtain⟨v,rfl,_,V⟩:=DataW.trod_int h d;exact⟨v,⟨bq,bq⟩,V⟩
 |.bool,i,cs,k,n,_,⟨b,_,_,_,_,h⟩,d=>by obtain⟨x,rfl,_⟩:=DataW.trod_bool h d;exact⟨x,⟨bq,bq⟩,trivial⟩
 |.str,i,cs,k,n,_,⟨b,_,_,_,_,h⟩,d=>by obtain⟨ap,rfl,_,_⟩:=DataW.trod_string h d;exact⟨ap,⟨bq,bq⟩,trivial⟩
 |.bc am c,i,cs,k,n,g,⟨b,N,_,_,_,_,h,l⟩,d=>by
  rcases DataW.trod_slice h d with⟨rfl,_⟩|⟨e,t,O,E,c2,v,rfl,rfl,_,_,ci,bl,bs,J,_⟩
  ·exact⟨[],⟨bq,br,0,bq,bf _,λ_=>rfl,.inl bq⟩,ae,ac⟩
  have G:=IB l;have K:=l.pos;have D:∀b,b<t->∃a:c.den,∃f:amo,f.length=c.size/\w.cells? 0 (e.add (b*c.size)) c.size=Y f/\aW (C6 w) w c f a []/\qJ c a:=by
   intro b u;have r:=J b u;have s:E[b]?=Y (E[b]'(by omega)):=cH _
   rw[s] at r;obtain⟨f,p,y⟩:=e3.1 r;rw[G] at p;obtain⟨a,j,q⟩:=Hl (τ:=c) g l y;exact⟨a,f,j.len,p,j,q⟩
  have T:∀m,m<=t->∃o:bp c.den,o.length=m/\∀(b:X) (a:c.den),o[b]?=Y a->∃f:amo,f.length=c.size/\w.cells? 0 (e.add (b*c.size)) c.size=Y f/\aW (C6 w) w c f a []/\qJ c a:=by
   intro m
   induction m with
   |zero=>simp_all
   |succ m ad=>
    intro bx;obtain⟨o,r,s⟩:=ad aa;obtain⟨a,f,p⟩:=D m aa;refine⟨o++[a],ae,λb L C=>?_⟩;grind
  obtain⟨o,r,s⟩:=T t (bf _);refine⟨o,⟨bq,Y e,O,by rw[r],aa,(λd=>by cases d),?_⟩,aa,λa j=>?_⟩
  ·cases t with
   |zero=>grind
   |succ t=>
    right;obtain⟨dg,a3,_,H,_⟩:=D 0 aa;have S:e.add (0*c.size)=e:=(by simp[api]);rw[S] at H;obtain⟨U,_,B,_⟩:=IC H K;refine⟨e.block,e.off,by obtain⟨x,an,av⟩:=e;grind,B,λb a j=>?_⟩;obtain⟨f,a0,R,d3,_⟩:=s b a j;obtain⟨_,_,_,F⟩:=IC R K;grind [ar,api]
  obtain⟨b,u,rfl⟩:=hN.1 j;obtain⟨_,_,_,_,q⟩:=s b _ (cH u);exact q
 |.ptr am c,i,cs,k,n,g,⟨b,N,_,_,_,_,h,l⟩,d=>by
  rcases DataW.trod_pointer h d with⟨rfl,_⟩|⟨e,Q,a,v,rfl,rfl,_,p,y⟩
  ·exact⟨br,⟨bq,bq⟩,λa d=>by cases d⟩
  rw[IB l] at p;obtain⟨L,C,q⟩:=Hl (τ:=c) g l y;obtain⟨U,_,B,F⟩:=IC p l.pos;refine⟨Y L,⟨bq,e.block,e.off,Q,by obtain⟨x,an,av⟩:=e;grind,B,C.len,F,C⟩,λa d=>by grind⟩
 |.st c,i,cs,k,n,g,⟨_,b,M,dl,u,co,_,_,h,I,_⟩,d=>by
  obtain⟨o,v,rfl,_,ce,cv,J⟩:=DataW.trod_struct h d;have G:P.cellsOf i=c.size:=(by grind [arj]);obtain⟨a,j,q⟩:=Us (τ:=c) (fs:=M.toList) (cs:=cs) g I aa (λc1 a4 I=>by
   grind)
  rw[nC] at j;exact⟨a,j,q⟩
 |.osl _,_,_,_,_,g,_,_|.optr _,_,_,_,_,g,_,_=>by cases g
 |.pr _ _,_,_,_,_,_,z,_|.nil,_,_,_,_,_,z,_=>z.elim
 |.eO,_,_,_,_,g,_,_=>by cases g
theorem Us:∀{τ:ak} {fs:bp amS} {c:X} {f cs:amo},tz τ=bt->je P τ fs c f->cs.length=c+τ.size->(∀(e:X) b,fs[e]?=Y b->∃(j:X) (k:DataW A×bp aof),aqj enc P w 0 (λ_=>bt) bt j b.type ((cs.drop b.offset).take (P.cellsOf b.type))=Y k)->∃l:τ.den,aW (C6 w) w τ (cs.drop c) l []/\qJ τ l
 |.pr y z,b::D,c,f,cs,d,p,r,i=>by simp only[tz,cJ] at d;obtain⟨n,g,B,_,o⟩:=p;obtain⟨j,k,h⟩:=i 0 b bq;rw[n,IB g] at h;obtain⟨v,s,t⟩:=Hl d.1 g h;obtain⟨x,C,u⟩:=Us (cs:=cs) d.2 o (by grind [amW]) (λe m q=>i (e+1) m q);exact⟨(v,x),⟨[],[],bq,s,ag⟩,t,u⟩
 |.nil,[],c,f,cs,_,_,r,_=>by refine⟨(),⟨bq,?_⟩,trivial⟩;grind [List.drop_eq_nil_iff,amW]
 |.pr _ _,[],_,_,_,_,a,_,_|.nil,_::_,_,_,_,_,a,_,_=>a.elim
 |.int _,fs,_,_,_,_,a,_,_=>by cases fs<;>exact a.elim
 |.bool,fs,_,_,_,_,a,_,_=>by cases fs<;>exact a.elim
 |.str,fs,_,_,_,_,a,_,_=>by cases fs<;>exact a.elim
 |.bc _ _,fs,_,_,_,_,a,_,_=>by cases fs<;>exact a.elim
 |.ptr _ _,fs,_,_,_,_,a,_,_=>by cases fs<;>exact a.elim
 |.osl _,fs,_,_,_,_,a,_,_=>by cases fs<;>exact a.elim
 |.optr _,fs,_,_,_,_,a,_,_=>by cases fs<;>exact a.elim
 |.st _,fs,_,_,_,_,a,_,_=>by cases fs<;>exact a.elim
 |.eO,fs,_,_,_,_,a,_,_=>by cases fs<;>exact a.elim
end
theorem ad7 {f:ak} {h:bH} (l:tz f=bt) (d:fD P f h) (c:aog P w .any a h g):g=c9 f g.cells.toList:=by
 cases f with
 |int q=>
  obtain⟨e,_,_,_,_,b⟩:=d;obtain⟨i,rfl⟩:=asi b c;rfl
 |bool=>
  obtain⟨e,_,_,_,_,b⟩:=d;obtain⟨i,rfl⟩:=asj b c;rfl
 |str=>
  obtain⟨e,_,_,_,_,b⟩:=d;obtain⟨i,rfl⟩:=asl b c;rfl
 |bc m j=>
  obtain⟨e,k,_,_,_,_,b,_⟩:=d;obtain⟨n,r,o,rfl⟩:=asm b c;rfl
 |ptr m j=>
  obtain⟨e,k,_,_,_,_,b,_⟩:=d;simp only[aog,b,Cell.okWide] at c;cases g<;>first|rfl|simp_all [Cell.ok]
 |st j=>
  obtain⟨_,e,p,s,_,_,_,_,b,_,_⟩:=d;simp only[aog,b] at c;obtain⟨cs,rfl,_⟩:=c;rfl
 |_=>first|(cases l;done)|exact d.elim
def xH (P:b2):bp hB->eC->bD
 |[],[]=>bt
 |.v a::c,b::d=>tz a&&ih P a b&&xH P c d
 |_,_=>bu
def qK:(d:bp hB)->hJ d->Prop
 |[],_=>True
 |.v e::b,a=>qJ e a.1/\qK b a.2
 |.m _::b,a|.o _::b,a|.c _ _::b,a|.n::b,a|.w _::b,a|.s _ _::b,a=>qK b a.2
def NR {P:b2}:∀{ps:bp hB} {b:eC} {k:X},xH P ps b=bt->jJ k ps=br
 |[],_,_,_=>rfl
 |.v g::d,e::f,k,a=>by simp only[xH,cJ] at a;exact NR (ps:=d) (k:=k+1) a.2
 |.v _::_,[],_,a=>by cases a
 |.m _::_,b,_,a=>by cases b<;>cases a
 |.o _::_,b,_,a=>by cases b<;>cases a
 |.c _ _::_,b,_,a=>by cases b<;>cases a
 |.n::_,b,_,a=>by cases b<;>cases a
 |.w _::_,b,_,a=>by cases b<;>cases a
 |.s _ _::_,b,_,a=>by cases b<;>cases a
def Ch {b:Type}:bp b->ey
 |[]=>[]
 |_::a=>[]::Ch a
theorem GQ {b:Type}:∀a:bp b,(Ch a).flatten=[]
 |[]=>rfl
 |_::a=>by simp only[Ch,my,GQ a,h3]
def NT:∀{f:bp hB} {l:eC} {base:X} {b:amo} {i:bp (DataW A)} {r:bp aof},xH P f l=bt->aoh enc P w 0 (λ_=>bt) bt l b i r->(∀(j:X) k g,l[j]?=Y k->b[j]?=Y g->aog P w .any base k g)->∃h:hJ f,qK f h/\∀{x:Type} (d:jd f x),m9 (zx (λd=>d<w.heap.size) (λ_=>b7) w) (gX f h d) b (Ch b)
 |[],[],base,b,i,r,_,q,_=>by cases b<;>cases i<;>first|exact⟨(),trivial,λ_=>trivial⟩|exact q.elim
 |.v U::Q,y::x,base,b,i,r,e,q,u=>by
  simp only[xH,cJ] at e;obtain⟨⟨s,z⟩,B⟩:=e;obtain⟨g,T,K,L,R,S,rfl,rfl,rfl,p,C⟩:=aqk q;obtain⟨M,p⟩:=p;have t:=ih.ok z;obtain⟨J,G,F⟩:=Hl s t p;obtain⟨h,D,E⟩:=NT B C (λj k I N O=>u (j+1) k I ae ae);refine⟨(J,h),⟨F,D⟩,λd=>⟨⟨bq,g.cells.toList,ad7 s t (u 0 y g bq rfl),?_⟩,E d⟩⟩;exact G.mono (λH d e=>⟨by cases H with
   |bm=>exact e
   |cX=>exact .inl e,cu _ _⟩) ac
 |[],_::_,_,_,_,_,a,_,_|.v _::_,[],_,_,_,_,a,_,_|.m _::_,_,_,_,_,_,a,_,_|.o _::_,_,_,_,_,_,a,_,_|.c _ _::_,_,_,_,_,_,a,_,_|.n::_,_,_,_,_,_,a,_,_|.w _::_,_,_,_,_,_,a,_,_=>by cases a
theorem Ur {P:b2} (k:laidOutB P=bt) {i j:bF} {o:X->bD}:∀{e:eC} {d:amo} {c:bp (DataW A)} {b:bp aof},(∀g∈e,P.readableRec g=bt/\g<P.types.size)->aoh enc P i 0 (λ_=>bt) bt e d c b->(∀a∈b,i.sameAt j a)->(∀a∈b,o a.block=bt)->aoh enc P j 0 o bt e d c b
 |[],d,c,b,_,f,_,_=>by cases d<;>cases c<;>first|exact f|exact f.elim
 |T::e,d,c,b,l,f,m,n=>by obtain⟨y,z,v,w,r,s,rfl,rfl,rfl,p,q⟩:=aqk f;obtain⟨t,u⟩:=l T ac;exact⟨r,s,asn k t u p (λa h=>m a ae) (λa h=>n a ae),Ur k (λg x=>l g ae) q (λa h=>m a ae) (λa h=>n a ae),bq⟩
theorem Z5 {E:fP} {F:jO} {l:ChangeSpec} {T:bH} (a4:aH E F) (el:laidOutB E.P=bt) (ds:(k.params.toList.all λd=>E.P.readableRec d&&cg d E.P.types.size)=bt) (S:xH E.P F.ps k.params.toList=bt) (_hrs:F.rs=[.bool]) (H:k.resultTypes=#[T]) (u:E.P.underlying T=Y .bool) (am:l.vars=[]) (fp:∀c:bp (DataW A),c.length=k.params.toList.length->l.fn A c=⟨[.lit (.bool bt)],c,[]⟩) (d3:∀t,qK F.ps t->∃b,F.sem t=Y b/\jG F.rs (iR F.ps b)=[⟨.bool,bt⟩]) {D a0 ce av:bD} {p:eB} {c y:bp (DataW A)} {g:bp aof} (d4:∀(r:X) d o,k.params[r]?=Y d->p[r]?=Y o->aog E.P h .any a d o) (I:DataW.Whole enc E.P k.params.toList l.vars D h p.toList c y g) (bl:lY E (λb=>b<h.heap.size) h):Calls E.P F.f p h λG e=>∃o,G=.returned o/\l.post enc E.P k D a0 ce av h p o e:=by
 have J:=I;obtain⟨B,d5,a3,z,R,co,em⟩:=I;rw[am] at z;have cv:y=[]/\d5=[]:=by cases y with
  |nil=>exact⟨bq,z⟩
  |cons=>exact z.elim
 obtain⟨rfl,rfl⟩:=cv;rw[pG] at R;subst R;obtain⟨t,dl,bx⟩:=NT (w:=h) (base:=a) S a3 (λr d o V ad=>d4 r d o ae ae);obtain⟨b,bs,d0⟩:=d3 t dl;have ek:∀{s:eC} {C:amo} {c:bp (DataW A)} {B:bp aof},aoh enc E.P h 0 (λ_=>bt) bt s C c B->c.length=s.length:=by
  intro s
  induction s with
  |nil=>intro C c B q;cases C<;>cases c<;>first|rfl|exact q.elim
  |cons T s fs=>
   grind [aqk]
 have N:l.fn A (c++[])=⟨[.lit (.bool bt)],c,[]⟩:=ae;have Q:=J.lt;have L:=a4.2 t b bs h (λb=>b<h.heap.size) (λ_=>b7) p.toList (Ch p.toList) (λb q=>q.elim id (λq=>q.elim)) (bx b) (by grind [GQ]) (by rw[GQ];simp) (by rw[Cq,NR S];trivial);rw[ark] at L;refine(L bl).mono ?_;rintro G e ⟨d6,d7,v,cF,rfl,n⟩;refine⟨_,bq,?_⟩;have d2:rx cF=.bool bt:=by
  have:=n.res;rw[d0] at this;cases cF with
  |nil=>cases v<;>exact this.elim
  |cons o cF=>
   cases v with
   |nil=>exact this.elim
   |cons d8 v=>
    obtain⟨⟨cs,ad,_,rfl⟩,d1⟩:=this;cases cF with
    |nil=>exact ad
    |cons=>cases v<;>exact d1.elim
 have O:∀b,b<h.heap.size->e.heap[b]?=h.heap[b]?:=λb u=>n.heap b u (by rw[GQ];simp);have ex:∀i∈g,h.sameAt e i:=λi x=>by
  have:=O i.block (Q i x);cases i with
  |cell b j=>show e.cell? _=h.cell? _;unfold anR;rw[show e.heap[b]?=h.heap[b]? from this]
  |map b=>exact this
 have ci:∀b j,arl b j∈g->e.frozen? ⟨b,j,br⟩=h.frozen? ⟨b,j,br⟩:=λb j x=>(by unfold ao5;rw[show e.heap[b]?=h.heap[b]? from O b (Q _ x)]);rw[d2];have eq:∀d∈k.params.toList,E.P.readableRec d=bt/\d<E.P.types.size:=λd V=>(by have:=hk.1 ds d V;simp_all);have K:∀m:X->bD,(∀i∈g,m i.block=bt)->aoh enc E.P e 0 m bt k.params.toList p.toList (l.fn A (c++[])).args g:=λm fl=>(by grind [Ur]);have U:∀(b:X) (m:X->bD) (M:bD),aoh enc E.P e b m M k.resultTypes.toList ((arn bt).resultList k.resultTypes.size) (l.fn A (c++[])).results []:=λb m M=>(by rw[N,H];exact aso ⟨1,by unfold aqj;rw[u];rfl⟩);have an:∀m:X->bD,DataW.TrodVars enc E.P e m l.vars (l.fn A (c++[])).vars []:=λm=>(by rw[N,am];rfl);have c2:∀(r:X) (d:bH) (ap:Value),k.resultTypes[r]?=Y d->((arn bt).resultList k.resultTypes.size)[r]?=Y ap->aog E.P e .any 0 d ap:=
  Go.RowKit.ok_one H bq (Go.RowKit.okWide_bool_mk u bt)
 have dg:∀i∈g,(λb=>bw (b<h.heap.size)) i.block=bt:=λi x=>ae;have c1:h.keptBut e (λ_=>b7):=(by refine⟨n.os,n.output,λfr d9=>?_⟩;grind);refine⟨c,[],g,[],g,[],J,U _ _ _,K _ dg,an _,World.keptBut_mono (λ_ q=>q.elim) c1,λ_=>?_⟩;refine⟨c2,_,_,([]++g)++[],⟨[]++g,[],asp (K _ (λ_ _=>rfl)) (U _ _ _),an _,bq,?_,?_⟩,?_⟩
 ·intro b j n;have n:arl b j∈g:=ae;rw[ci b j n];exact co b j n
 ·grind
 grind
end
end
section
inductive HA where
 |a
 |b (f:amu)
 |c (f m:amu)
def Ju (a:X):X:=a/64+a %64*500000
abbrev mS (a:X):X×pK:=(a,.s (.ref a []))
abbrev CJ (a:X):X×pK:=(a,.v (.int .i64))
inductive pz where
 |l
 |o (a:pz)
 |t (j:HH) (a b:pz)
 |n (b:pz)
 |p (Cv:n9) (m:HI) (a:pz)
 |k (l:amu) (a:pz)
 |z (F:amu) (a:pz)
 |d (L:bp HA)
def GY (b:bW bU) (a:X) (f c:amu):ms:=match b[a]? with
 |some d=>⟨a,dl d,d.looksAt b,ru b a,f,c⟩
 |none=>⟨a,[],[],[],f,c⟩
def Fo (d:bW bU):X->bp HA->bp ms
 |_,[]=>[]
 |i,.a::e=>GY d i [] []::Fo d (i+1) e
 |i,.b f::e=>GY d i (f.map Ju) []::Fo d (i+1) e
 |i,.c f g::e=>GY d i (f.map Ju) (g.map Ju)::Fo d (i+1) e
def ud:cx->m1
 |.seq a b|.cond _ a b=>.two .none (ud a) (ud b)
 |.block _ a=>.one (ud a)
 |.region _ c bt=>.draw ((bK c.size).map λd=>GY c d [] [])
 |_=>.leaf
def Ca:X->X->bp a6
 |0,_=>[]
 |k+1,a=>match a %5 with
  |1=>.deref::Ca k (a/5)
  |2=>.unst::Ca k (a/5)
  |3=>.fst::Ca k (a/5)
  |4=>.snd::Ca k (a/5)
  |_=>[]
def pz.ex:pz->cx->m1
 |.l,a=>ud a
 |.o b,.block _ a=>.one (b.ex a)
 |.t J b c,.seq a e|.t J b c,.cond _ a e=>.two J (b.ex a) (c.ex e)
 |.n c,.seq a e|.n c,.cond _ a e=>.two .none (ud a) (c.ex e)
 |.p j h b,.loop a=>.loop j h (b.ex a)
 |.k g b,a=>.keep g (b.ex a)
 |.z f b,a=>match f with
  |[q]=>bif b5 1000000 q then .fp (q %1000000) (Ca 12 (q/1000000)) (b.ex a) else bif bL q 888888 then .An else .q5 f (b.ex a)
  |_=>.q5 f (b.ex a)
 |.d g,.region _ i _=>.draw (Fo i 0 g)
 |_,_=>.leaf
def xA (E:fP):Type:={a:bp (X×jO)//∀b∈a,aH E b.2}
def aF {E:fP}:xA E:=⟨[],Ui⟩
def aj {E:fP} {a:jO} (c:aH E a) (b:xA E):xA E:=⟨(a.f,a)::b.1,ahK c b.2⟩
section
variable {E:fP} {f:X} {fn:Func} {ps:bp hB} {C:bp ak} {sem:hJ ps->bv (jd ps (lR C))}
def aH.q (d:xA E) (l:pz) (k:E.P.funcs[f]?=Y fn) (j:∀(h:eB) (i:bF),(callFunc f h).run E.P i=.ok (.enter f h) i) (g:bp (X×ak):=[]) (e:amw:=[]) (a:(fn.body.isSome&&b5 ps.length fn.ntmps)=bt:=by kernel_rfl) (c:∀b,yA ⟨E.tt,d.1,g,fn.ntmps,kp 0 ps++nU (jJ 0 ps),[],e,jJ 0 ps,[],[],E.glob,E.eqs⟩ (l.ex (fn.body.getD .skip)) (fn.body.getD .skip) ps fn.results.toList C b=sem b:=by intro b;kernel_rfl):aH E ⟨f,ps,C,sem⟩:=
 have a:=cJ _ _▸a
 aH.RA d.1 g e _ [] (λ_ c=>by cases c) k a.1 ark.symm a.2 j d.2 c
end
end
def lS (a:X):X×X:=bif cg (a %32) 28 then(a %32,a/32) else bif bL (a %32) 31 then(a/32 %134217728,a/4294967296) else((a %32-28)*256+a/32 %256+28,a/8192)
def oB {c:Type} (b:X->c×X):X->X->bp c×X
 |0,a=>([],a)
 |k+1,a=>match a %2 with
  |0=>([],a/2)
  |_=>match b (a/2) with
   |(x,t)=>match oB b k t with
    |(l,u)=>(x::l,u)
def L2 (a:bp ak) (b:X):ak×X:=match lS b with
 |(i,t)=>(a.getD i .nil,t)
def oC {a b:Type} (c:X->a×X) (d:X->b×X) (e:X):(a×b)×X:=match c e with
 |(x,t)=>match d t with
  |(y,u)=>((x,y),u)
def af9 (b:bp ak) (a:X):(X×pK)×X:=match a %4 with
 |0=>match lS (a/4) with
  |(k,t)=>(mS k,t)
 |1=>match lS (a/4) with
  |(k,t)=>(CJ k,t)
 |2=>match oC lS (L2 b) (a/4) with
  |((k,x),t)=>((k,.v x),t)
 |_=>match oC lS lS (a/4) with
  |((k,x),t)=>((k,.s (.ref x [])),t)
def Ce (a:bp ak) (b:X):n9×X:=match oC (oB (af9 a) 99) (oB (oC lS (L2 a)) 99) b with
 |((x,y),t)=>(⟨x,y⟩,t)
def af8 (b:bp ak) (a:X):HH×X:=match a %3 with
 |0=>(.none,a/3)
 |1=>match oC (oB lS 99) (Ce b) (a/3) with
  |((x,y),t)=>(.x x y,t)
 |_=>match oC (oB lS 99) (Ce b) (a/3) with
  |((x,y),t)=>(.w5 x y,t)
def aga (b:bp ak) (a:X):HI×X:=match a %3 with
 |0=>(.r,a/3)
 |1=>match oC lS (Ce b) (a/3) with
  |((x,y),t)=>(.x x y,t)
 |_=>match oC lS (Ce b) (a/3) with
  |((x,y),t)=>(.w5 x y,t)
def L1 (a:X):X×X:=match a %2 with
 |0=>match lS (a/2) with
  |(k,t)=>(k*64,t)
 |_=>match lS (a/128) with
  |(k,t)=>(k*64+a/2 %64,t)
def af7 (d:X):HA×X:=match d %3 with
 |0=>(.a,d/3)
 |1=>match oB L1 99 (d/3) with
  |(x,t)=>(.b x,t)
 |_=>match oC (oB L1 99) (oB L1 99) (d/3) with
  |((x,y),t)=>(.c x y,t)
def uO (e:bp ak):X->X->pz×X
 |0,c=>(.l,c)
 |k+1,c=>match c %8 with
  |0=>(.l,c/8)
  |1=>match uO e k (c/8) with
   |(a,t)=>(.o a,t)
  |2=>match af8 e (c/8) with
   |(f,t)=>match uO e k t with
    |(a,t)=>match uO e k t with
     |(b,t)=>(.t f a b,t)
  |3=>match uO e k (c/8) with
   |(a,t)=>(.n a,t)
  |4=>match oC (Ce e) (aga e) (c/8) with
   |((x,y),t)=>match uO e k t with
    |(a,t)=>(.p x y a,t)
  |5=>match oB lS 99 (c/8) with
   |(x,t)=>match uO e k t with
    |(a,t)=>(.k x a,t)
  |6=>match oB lS 99 (c/8) with
   |(x,t)=>match uO e k t with
    |(a,t)=>(.z x a,t)
  |_=>match oB af7 999 (c/8) with
   |(x,t)=>(.d x,t)
def ze (b:bp ak) (c:X):pz×bp (X×ak)×amw:=match uO b 999 c with
 |(a,t)=>match oC (oB (oC lS (L2 b)) 99) (oB (oC lS lS) 99) t with
  |((x,y),_)=>(a,x,y)
def WT {b:b2} (h:b.funcs[a]?=Y k) (i:(k.name=="runtime.NumGoroutine")=bu) (g:k.body.isSome=bt) (c:eB) (d:bF):(callFunc a c).run b d=.ok (.enter a c) d:=by have e:k.name≠"runtime.NumGoroutine":=(by simpa using i);obtain⟨j,f⟩:=HO.1 g;simp[callFunc,h,e,f,Sem.run]
section
def ah {α:Type} (c:bv α) (b:α->Prop):Prop:=∃a,c=Y a/\b a
section
variable {α A σ ρ τ:Type}
theorem ah.ai {a:α} {b:α->Prop}:ah (Y a) b↔b a:=⟨λ⟨_,c,d⟩=>by grind,λc=>⟨a,bq,c⟩⟩
theorem ah.uF {a:α->Prop}:ah br a↔False:=⟨(λ⟨_,b,_⟩=>by cases b),False.elim⟩
theorem ah.fu {x:bv α} {b:α->bv A} {a:A->Prop}:ah (x.bind b) a↔ah x (λc=>ah (b c) a):=by
 cases x with
 |none=>grind [ah.uF]
 |some c=>grind [ah.ai]
theorem ah.KQ {a:bv α} {c:α->A} {b:A->Prop}:ah (a.map c) b↔ah a (λd=>b (c d)):=by
 cases a with
 |none=>grind [ah.uF]
 |some d=>grind [ah.ai]
theorem ah.fN {b:bD} {c d:bv α} {a:α->Prop}:ah (bif b then c else d) a↔(b=bt->ah c a)/\(b=bu->ah d a):=by grind
theorem ah.mono {c:bv α} {P b:α->Prop} (d:ah c P) (g:∀a,P a->b a):ah c b:=let⟨a,e,f⟩:=d;⟨a,e,g a f⟩
def ah.eq_iff {c:bv α} {b:α}:ah c (· =b)↔c=Y b:=⟨λ⟨e,a,d⟩=>by rw[a,d],λa=>⟨b,a,bq⟩⟩
theorem ah.PQ {a:bp α} {b:α->Prop}:ah (az a e) b↔∃(d:e.toNat<a.length),0<=e/\b a[e.toNat]:=by
 unfold az;by_cases c:0<=e
 ·rw[ay c];grind [aoi,ah.uF,bZ,ah.ai]
 rw[aw c,ah.uF];grind
theorem ah.lL {b:bp α} {c:α->Prop}:ah (az b (a:Z)) c↔∃(d:a<b.length),c b[a]:=by rw[ah.PQ];simp
theorem ah.FU:ah (bn a e) l↔(0<=e/\e.toNat<a)/\l e.toNat:=by
 unfold bn;by_cases b:0<=e/\e.toNat<a
 ·simp_all [ay,ah.ai]
 rw[aw b,ah.uF];simp[b]
theorem ah.yK {b:bz->Prop}:ah (c3 a) b↔a<=hR/\b ():=by
 unfold c3;by_cases c:a<=hR
 ·simp_all [ay,ah.ai]
 rw[aw c,ah.uF];simp[c]
theorem ah.KP {a:Z}:ah (fR e a) l↔(0<=e/\e<=a/\a<=(hR:Z))/\l e.toNat:=by
 unfold fR;by_cases b:0<=e/\e<=a/\a<=(hR:Z)
 ·simp_all [ay,ah.ai]
 rw[aw b,ah.uF];simp[b]
def be (d:bp α) (c:X) (b:α->bv A):bv A:=match d[c]? with
 |some a=>b a
 |none=>br
theorem ah.Dn {b:bp α} {d:α->bv A} {c:A->Prop}:ah (be b a d) c↔∃(e:a<b.length),ah (d b[a]) c:=by grind [aoi,ah.uF,bZ,be]
theorem ah.loop {g:σ->bv (σ⊕ρ)} {f:ρ->Prop} (d:σ->Prop) (e:σ->X) {a:σ} (m:d a) (k:∀a,d a->ah (g a) (λ|.inl l=>d l/\e l<e a|.inr b=>f b)):ah (loop g a) f:=by
 have o:∀c a,e a<=c->d a->∃b,kf g (c+1) a=Y b/\f b:=by
  intro c
  induction c with
  |zero=>
   intro a n j;obtain⟨p,h,i⟩:=k a j;grind [kf]
  |succ c q=>
   intro a n j;obtain⟨p,h,i⟩:=k a j;grind [kf]
 obtain⟨b,h,i⟩:=o (e a) a (bf _) m;exact⟨b,BM.2 ⟨_,h⟩,i⟩
theorem ah.for {h:Z×τ->bv ((Z×τ)⊕ρ)} {g:ρ->Prop} (b:X) (d:X->τ->Prop) {i0:X} {m:τ} (o:e=(i0:Z)) (n:d i0 m) (k:i0<=b) (q:∀a c,i0<=a->a<b->d a c->ah (h ((a:Z),c)) (λ|.inl l=>l.1=((a+1:X):Z)/\d (a+1) l.2|.inr i=>g i)) (s:∀c,d b c->ah (h ((b:Z),c)) (λ|.inl _=>b7|.inr i=>g i)):ah (j5.loop h (e,m)) g:=by
 subst o;refine ah.loop (λf=>∃a:X,i0<=a/\a<=b/\f.1=(a:Z)/\d a f.2) (λf=>b-f.1.toNat) ⟨i0,bf _,k,bq,n⟩ ?_;rintro⟨t,c⟩ ⟨a,p,k,rfl,r⟩;rcases c6 a b with j|j
 ·refine(q a c p j r).mono ?_;grind
 grind [mono]
end
theorem aiA (a:Z):bN.wrap a=if(9223372036854775808:Z)<=a %18446744073709551616 then a %18446744073709551616-18446744073709551616 else a %18446744073709551616:=by
 unfold aoj;by_cases b:(9223372036854775808:Z)<=a %18446744073709551616
 ·rw[ay b];exact ay (show(bt&&bw (a %18446744073709551616>=(9223372036854775808:Z)))=bt by simp[b])
 rw[aw b];exact aw (show¬(bt&&bw (a %18446744073709551616>=(9223372036854775808:Z)))=bt by simp[b])
theorem wrap64 (a:-9223372036854775808<=e) (b:e<=9223372036854775807):bN.wrap e=e:=by grind [aiA]
theorem jM (b:a<9223372036854775807):bN.wrap ((a:Z)+1)=((a+1:X):Z):=by grind [wrap64]
end
section
abbrev au {α:Type} (a:bp α):Z:=((a.length:X):Z)
abbrev aD (a:Z):Z:=bN.wrap a
abbrev aS (a:Z):Z:=bG.wrap a
abbrev eY (a:Z):Z:=ch.wrap a
abbrev aT (a:Z):Z:=bN.wrap (a+1)
def rd {α A:Type} (a:bp α) (c:Z) (e:α->bv A):bv A:=(bn a.length c).bind λd=>(be a d λb=>Y b).bind e
def wr {α A:Type} (a:bp α) (c:Z) (e:α) (d:bp α->bv A):bv A:=(bn a.length c).bind λb=>(be a b λ_=>Y (a.set b e)).bind d
section
variable {α A:Type}
def ky {b:bp α} (d:a<b.length) (c:α->bv A):rd b (a:Z) c=c b[a]:=by unfold rd bn;rw[ay ⟨aa,by simpa using d⟩];show(be b (a:Z).toNat _).bind c=_;unfold be;rw[fV,cH d];rfl
theorem nw {b:bp α} (d:a<b.length) (e:α) (c:bp α->bv A):wr b (a:Z) e c=c (b.set a e):=by unfold wr bn;rw[ay ⟨aa,by simpa using d⟩];show(be b (a:Z).toNat _).bind c=_;unfold be;rw[fV,cH d];rfl
end
end
def D0:ea->ams:=λ(e,h,_)=>(loop (σ:=eo) (ρ:=ed) (λ(f,c,_)=>bif bw (c<((e.length:X):Z)) then(bE (α:=er⊕dK) ((az e c).bind λd=>bE (α:=bz⊕(er⊕dK)) (bB (bw (d<=f)==bu) (bB (bw (d>=h)) (Y (.inr (.inr (.inr (.inr (bu,())))))) (Y (.inl ()))) (Y (.inr (.inr (.inr (.inr (bu,()))))))) λa=>match a with
 |.inl _=>(Y (.inl (d,())))
 |.inr b=>Y b) λa=>match a with
 |.inl (g,_)=>(Y (.inl (g,bN.wrap (c+(1:Z)),())))
 |.inr b=>Y b) else Y (.inr (.inl ()))) ((-1:Z),(0:Z),())).bind λa=>match a with
 |.inl _=>(Y (bt,()))
 |.inr b=>Y b
def tG:er->ams:=λ(a,_)=>Y ((a !=a),())
def vK:eo->ams:=λ(a,b,_)=>(tG (a,())).bind λ(c,_)=>(bB (c==bt) ((tG (b,())).bind λ(aY,_)=>bB ((!aY)==bu) (Y (bw (a<b),())) (Y (bt,()))) (Y (bw (a<b),())))
def EN:er->ams:=λ(a,_)=>Y ((a !=a),())
def vR:ea->bv ei:=λ(b,e,_)=>(loop (σ:=eo) (ρ:=er) (λ(c,d,_)=>bB (bw (c<d)) ((e8 bG (bG.wrap (bN.wrap (c+d))) (1:Z)).bind λf=>(az b (bN.wrap f)).bind λk=>(vK (k,e,())).bind λ(i,_)=>bB i (Y (.inl (bN.wrap (bN.wrap f+(1:Z)),d,()))) (Y (.inl (c,bN.wrap f,())))) (Y (.inr (c,())))) ((0:Z),((b.length:X):Z),())).bind λ(a,_)=>(bB (bw (a<((b.length:X):Z))==bt) ((az b a).bind λl=>bB ((l==e)==bu) ((az b a).bind λj=>(EN (j,())).bind λ(g,_)=>bB (g==bt) ((EN (e,())).bind λ(h,_)=>Y (a,h,())) (Y (a,bu,()))) (Y (a,bt,()))) (Y (a,bu,())))
def xW:(dU×Z×Z×bz)->ams:=λ(a,c,d,_)=>(az a.1 c).bind λe=>(vR (e,d,())).bind λ(_,b,_)=>Y (b,())
def AA:dQ->amt:=λ(a,_)=>(bif bw ((((a.1).length:X):Z)>(200:Z)) then Y ((6:Z),()) else((loop (σ:=er) (ρ:=ef) (λ(d,_)=>bif bw (d<(((a.1).length:X):Z)) then(bE (α:=bz⊕dP) ((az a.1 d).bind λj=>(D0 (j,(((a.1).length:X):Z),())).bind λ(aY,_)=>bB ((!aY)==bu) ((xW (a,d,d,())).bind λ(i,_)=>bB i (Y (.inr (.inr (.inr ((1:Z),()))))) (Y (.inl ()))) (Y (.inr (.inr (.inr ((1:Z),())))))) λb=>match b with
 |.inl _=>(Y (.inl (bN.wrap (d+(1:Z)),())))
 |.inr c=>Y c) else Y (.inr (.inl ()))) ((0:Z),())).bind λb=>match b with
 |.inl _=>((loop (σ:=er) (ρ:=ef) (λ(e,_)=>bif bw (e<(((a.1).length:X):Z)) then((az a.1 e).bind λg=>(loop (σ:=er) (ρ:=dH) (λ(f,_)=>bB (bw (f<((g.length:X):Z))) ((az g f).bind λk=>(xW (a,k,e,())).bind λ(h,_)=>bB (!h) (Y (.inr (.inr (.inr (.inr ((1:Z),())))))) (Y (.inl (bN.wrap (f+(1:Z)),())))) (Y (.inr (.inl ())))) ((0:Z),())).bind λb=>match b with
 |.inl _=>(Y (.inl (bN.wrap (e+(1:Z)),())))
 |.inr c=>Y c) else Y (.inr (.inl ()))) ((0:Z),())).bind λb=>match b with
 |.inl _=>(Y ((0:Z),()))
 |.inr c=>Y c)
 |.inr c=>Y c))
def ES:ej->ams:=λ(b,_)=>(loop (σ:=er) (ρ:=ed) (λ(a,_)=>bB (bw (a<((b.length:X):Z))) ((az b a).bind λe=>(az b (bN.wrap (a-(1:Z)))).bind λf=>bB (bw (e<=f)) (Y (.inr (.inr (bu,())))) (Y (.inl (bN.wrap (a+(1:Z)),())))) (Y (.inr (.inl ())))) ((1:Z),())).bind λc=>match c with
 |.inl _=>(Y (bt,()))
 |.inr d=>Y d
def ye:eo->amt:=λ(a,b,_)=>(jH (bG.wrap a) (bG.wrap b)).bind λc=>Y (bN.wrap c,())
def Ba:dT->bv dQ:=λ(f,_)=>(loop (σ:=dv) (ρ:=dw) (λ(b,l,i,_)=>bif bw (b<((f.length:X):Z)) then(loop (σ:=(Z×dU×dU×amv×bz)) (ρ:=dr) (λ(a,e,c,d,_)=>bif bw (a<((f.length:X):Z)) then bE (α:=dr) (bE (α:=(bD×dU×dU×amv×bz)) (bB ((b !=a)==bt) ((az f b).bind λt=>(az t a).bind λu=>bB (u==bu) ((az f a).bind λv=>(az v b).bind λw=>Y (w,e,c,d,())) (Y (bt,e,c,d,()))) (Y (bu,e,c,d,()))) λ(q,m,j,h,_)=>
 bB q ((c3 (h.length+([a]).length)).bind λ_=>Y (m,j,(h++[a]),())) (Y (m,j,h,()))) λ(r,n,p,_)=>Y (.inl (bN.wrap (a+(1:Z)),r,n,p,())) else Y (.inr (e,c,d,()))) ((0:Z),l,i,[],())).bind λ(s,g,k,_)=>(c3 ((g.1).length+([k]).length)).bind λ_=>Y (.inl (bN.wrap (b+(1:Z)),s,((g.1++[k]),g.2),())) else Y (.inr (l,i,()))) ((0:Z),([],()),([],()),())).bind λ(_,o,_)=>Y (o,())
def AY:ea->ams:=λ(b,e,_)=>(loop (σ:=er) (ρ:=ed) (λ(a,_)=>bB (bw (a<((b.length:X):Z))) ((az b a).bind λf=>bB (f==e) (Y (.inr (.inr (bt,())))) (Y (.inl (bN.wrap (a+(1:Z)),())))) (Y (.inr (.inl ())))) ((0:Z),())).bind λc=>match c with
 |.inl _=>(Y (bu,()))
 |.inr d=>Y d
def yj:dQ->amt:=λ(a,_)=>(bif bw ((((a.1).length:X):Z)>(200:Z)) then Y ((6:Z),()) else((loop (σ:=er) (ρ:=ef) (λ(b,_)=>bif bw (b<(((a.1).length:X):Z)) then(az a.1 b).bind λh=>(ES (h,())).bind λ(aY,_)=>bif !aY then Y (.inr (.inr ((1:Z),()))) else((loop (σ:=er) (ρ:=dH) (λ(f,_)=>(az a.1 b).bind λi=>bif bw (f<((i.length:X):Z)) then(bE (α:=bz⊕(er⊕dH)) ((az a.1 b).bind λj=>(az j f).bind λe=>bB (bw (e<(0:Z))==bu) (bB (bw (e>=(((a.1).length:X):Z))==bu) (bB ((e==b)==bu) ((az a.1 e).bind λk=>(AY (k,b,())).bind λ(g,_)=>bB (!g) (Y (.inr (.inr (.inr (.inr (.inr ((1:Z),()))))))) (Y (.inl ()))) (Y (.inr (.inr (.inr (.inr (.inr ((1:Z),())))))))) (Y (.inr (.inr (.inr (.inr (.inr ((1:Z),())))))))) (Y (.inr (.inr (.inr (.inr (.inr ((1:Z),())))))))) λc=>match c with
 |.inl _=>(Y (.inl (bN.wrap (f+(1:Z)),())))
 |.inr d=>Y d) else Y (.inr (.inl ()))) ((0:Z),())).bind λc=>match c with
 |.inl _=>(Y (.inl (bN.wrap (b+(1:Z)),())))
 |.inr d=>Y d) else Y (.inr (.inl ()))) ((0:Z),())).bind λc=>match c with
 |.inl _=>(Y ((0:Z),()))
 |.inr d=>Y d))
def Fa:ea->ams:=λ(b,e,_)=>(loop (σ:=er) (ρ:=ed) (λ(a,_)=>bif bw (a<((b.length:X):Z)) then(bE (α:=bz⊕dO) ((az b a).bind λf=>bB (bw (f<(0:Z))==bu) ((az b a).bind λg=>bB (bw (g>=e)) (Y (.inr (.inr (.inr (bu,()))))) (Y (.inl ()))) (Y (.inr (.inr (.inr (bu,())))))) λc=>match c with
 |.inl _=>(Y (.inl (bN.wrap (a+(1:Z)),())))
 |.inr d=>Y d) else Y (.inr (.inl ()))) ((0:Z),())).bind λc=>match c with
 |.inl _=>(Y (bt,()))
 |.inr d=>Y d
def Fb:ej->ams:=λ(b,_)=>(loop (σ:=er) (ρ:=ed) (λ(a,_)=>bB (bw (a<((b.length:X):Z))) (((Y (0)).bind λc=>(hS a).bind λd=>(iA c d b.length).map λ_=>(c,d)).bind λe=>(az b a).bind λi=>(AY (((b.take e.2).drop e.1),i,())).bind λ(h,_)=>bB h (Y (.inr (.inr (bt,())))) (Y (.inl (bN.wrap (a+(1:Z)),())))) (Y (.inr (.inl ())))) ((0:Z),())).bind λf=>match f with
 |.inl _=>(Y (bu,()))
 |.inr g=>Y g
def Bb:dQ->bv dT:=λ(a,_)=>(loop (σ:=dR) (ρ:=dT) (λ(c,g,_)=>bB (bw (c<(((a.1).length:X):Z))) ((fR (((a.1).length:X):Z) (((a.1).length:X):Z)).bind λj=>(loop (σ:=(Z×ew×amr×bz)) (ρ:=(ew×amr×bz)) (λ(d,h,b,_)=>(az a.1 c).bind λm=>bB (bw (d<((m.length:X):Z))) ((az a.1 c).bind λn=>(az n d).bind λl=>(bn b.length l).bind λe=>(be b e λ_=>Y (b.set e bt)).bind λo=>Y (.inl (bN.wrap (d+(1:Z)),h,o,()))) (Y (.inr (h,b,())))) ((0:Z),g,bM j bu,())).bind λ(f,i,_)=>(c3 (f.length+([i]).length)).bind λ_=>Y (.inl (bN.wrap (c+(1:Z)),(f++[i]),()))) (Y (.inr (g,())))) ((0:Z),[],())).bind λ(k,_)=>
 Y (k,())
def Bc:er->bv dT:=λ(a,_)=>(loop (σ:=dR) (ρ:=dT) (λ(c,b,_)=>bB (bw (c<a)) ((fR a a).bind λd=>(c3 (b.length+([bM d bu]).length)).bind λ_=>Y (.inl (bN.wrap (c+(1:Z)),(b++[bM d bu]),()))) (Y (.inr (b,())))) ((0:Z),[],())).bind λ(e,_)=>Y (e,())
def Fc:dF->bv dM:=λ(e,a,_)=>(yj (e,())).bind λ(j,_)=>(bif j !=(0:Z) then Y (([],()),j,()) else(Fa (a,(((e.1).length:X):Z),())).bind λ(aY,_)=>bif !aY then Y (([],()),(3:Z),()) else(Fb (a,())).bind λ(r,_)=>bif r then Y (([],()),(90:Z),()) else(Bb (e,())).bind λ(s,_)=>(Bc (((a.length:X):Z),())).bind λ(t,_)=>(loop (σ:=dy) (ρ:=dz) (λ(c,l,i,_)=>bif bw (c<((a.length:X):Z)) then(loop (σ:=dy) (ρ:=dz) (λ(d,k,b,_)=>bif bw (d<((a.length:X):Z)) then(bn b.length c).bind λf=>(az a c).bind λv=>
 (az s v).bind λw=>(az a d).bind λx=>(az w x).bind λy=>((be b f λm=>Y m).bind λn=>bn n.length d).bind λh=>(be b f λg=>(be g h λ_=>Y (g.set h y)).map λz=>b.set f z).bind λA=>Y (.inl (bN.wrap (d+(1:Z)),k,A,())) else Y (.inr (k,b,()))) ((0:Z),l,i,())).bind λ(u,o,_)=>Y (.inl (bN.wrap (c+(1:Z)),u,o,())) else Y (.inr (l,i,()))) ((0:Z),([],()),t,())).bind λ(_,p,_)=>(Ba (p,())).bind λ(q,_)=>Y (q,(0:Z),()))
def Fe:dQ->bv dB:=λ(a,_)=>(Bb (a,())).bind λ(c,_)=>(fR (((a.1).length:X):Z) (((a.1).length:X):Z)).bind λb=>Y ((c,(bM b bu,())),())
def Be:(bv dL×Z×bz)->bv ej:=λ(b,h,_)=>(loop (σ:=eb) (ρ:=ej) (λ(a,d,_)=>b.bind λj=>bB (bw (a<(((j.1).length:X):Z))) (bE (α:=ej) (bE (α:=(bD×amv×bz)) (b.bind λk=>(az k.1 h).bind λl=>(az l a).bind λm=>bB (m==bt) (b.bind λn=>(az n.2.1 a).bind λi=>Y ((!i),d,())) (Y (bu,d,()))) λ(g,c,_)=>bB g ((c3 (c.length+([a]).length)).bind λ_=>Y ((c++[a]),())) (Y (c,()))) λ(e,_)=>Y (.inl (bN.wrap (a+(1:Z)),e,()))) (Y (.inr (d,())))) ((0:Z),[],())).bind λ(f,_)=>Y (f,())
def Bd:(dL×Z×bz)->bv dB:=λ(h,l,_)=>(Be (Y h,l,())).bind λ(e,_)=>(loop (σ:=dA) (ρ:=dB) (λ(c,i,_)=>bif bw (c<((e.length:X):Z)) then(loop (σ:=dA) (ρ:=dB) (λ(d,a,_)=>bif bw (d<((e.length:X):Z)) then bE (α:=dB) (bB (c !=d) ((az e c).bind λr=>(bn (a.1).length r).bind λf=>(az e d).bind λq=>((be a.1 f λm=>Y m).bind λn=>bn n.length q).bind λj=>((be a.1 f λg=>(be g j λ_=>Y (g.set j bt)).map λs=>(a.1).set f s).map λt=>(t,a.2)).bind λu=>Y (u,())) (Y (a,()))) λ(o,_)=>
 Y (.inl (bN.wrap (d+(1:Z)),o,())) else Y (.inr (a,()))) ((0:Z),i,())).bind λ(p,_)=>Y (.inl (bN.wrap (c+(1:Z)),p,())) else Y (.inr (i,()))) ((0:Z),h,())).bind λ(b,_)=>(bn (b.2.1).length l).bind λk=>(((be b.2.1 k λ_=>Y ((b.2.1).set k bt)).map λv=>(v,b.2.2)).map λw=>(b.1,w)).bind λx=>Y (x,())
def Bf:dQ->bv (ez×Z×bz):=λ(b,_)=>(yj (b,())).bind λ(e,_)=>(bB (e !=(0:Z)) (Y ([],e,())) ((Fe (b,())).bind λ(i,_)=>(loop (σ:=(Z×dL×ez×bz)) (ρ:=dU) (λ(a,f,c,_)=>bB (bw (a<(((b.1).length:X):Z))) ((Be (Y f,a,())).bind λ(d,_)=>(c3 (([a]).length+d.length)).bind λ_=>(c3 (c.length+([([a]++d)]).length)).bind λ_=>(Bd (f,a,())).bind λ(g,_)=>Y (.inl (bN.wrap (a+(1:Z)),g,(c++[([a]++d)]),()))) (Y (.inr (c,())))) ((0:Z),i,[],())).bind λ(h,_)=>Y (h,(0:Z),())))
def Ev:eo->bv eo:=λ(b,a,_)=>(e8 bG b (32:Z)).bind λc=>(e8 bG a (32:Z)).bind λd=>(e8 bG (bG.wrap (fo bG b (4294967295:Z)*fo bG a (4294967295:Z))) (32:Z)).bind λe=>(e8 bG (bG.wrap (bG.wrap (c*fo bG a (4294967295:Z))+e)) (32:Z)).bind λf=>(e8 bG (bG.wrap (fo bG (bG.wrap (bG.wrap (c*fo bG a (4294967295:Z))+e)) (4294967295:Z)+bG.wrap (fo bG b (4294967295:Z)*d))) (32:Z)).bind λg=>Y (bG.wrap (bG.wrap (bG.wrap (c*d)+f)+g),bG.wrap (b*a),())
def I2:eo->bv eo:=λ(b,c,_)=>(Ev (b,c,())).bind λ(a,aY,_)=>Y (a,aY,())
def EK:ea->bv ej:=λ(e,f,_)=>bE (α:=bz) (bB (bw (f<(0:Z))) br (Y ())) λ_=>(I2 (bG.wrap ((e.length:X):Z),bG.wrap f,())).bind λ(l,aY,_)=>bE (α:=bz) (bE (α:=ep) (bB (bw (l>(0:Z))==bu) (Y (bw (aY>(9223372036854775807:Z)),())) (Y (bt,()))) λ(m,_)=>bB m br (Y ())) λ_=>(fR (bN.wrap aY) (bN.wrap aY)).bind λd=>(loop (σ:=eb) (ρ:=ej) (λ(b,a,_)=>bif bw (b<((a.length:X):Z)) then((hS b).bind λj=>(Y (a.length)).bind λg=>(iA j g a.length).bind λ_=>(y4 a.length).map λ_=>(j,g)).bind λc=>((Y (0)).bind λh=>(hS b).bind λi=>(iA h i a.length).bind λ_=>(y4 a.length).map λ_=>(h,i)).bind λy8=>Y (.inl (bN.wrap (b+((min ((a.take y8.2).drop y8.1).length (c.2-c.1):X):Z)),ka a ((a.take y8.2).drop y8.1) c.1 c.2,())) else
 Y (.inr (a,()))) (((min e.length ((bM d (0:Z)).length-0):X):Z),ka (bM d (0:Z)) e 0 (bM d (0:Z)).length,())).bind λ(k,_)=>Y (k,())
def Fg:(bp dN×Z×bz)->bv dY:=λ(g,h,_)=>(loop (σ:=eb) (ρ:=dG) (λ(e,b,_)=>bif bw (e<((g.length:X):Z)) then(bE (α:=ej⊕dt) ((az g e).bind λa=>bE (α:=(amv×dN×bz)⊕(ej⊕dt)) (bE (α:=(bD×amv×dN×bz)) (bB ((a.1 !=((b.length:X):Z))==bu) (bB (bw (a.2.1<=a.1)==bu) (Y (bw (a.2.1>h),b,a,())) (Y (bt,b,a,()))) (Y (bt,b,a,()))) λ(o,m,l,_)=>bB o (Y (.inr (.inr (.inr (.inr ([],bu,())))))) (Y (.inl (m,l,())))) λc=>match c with
 |.inl (i,f,_)=>((EK ([e],bN.wrap (f.2.1-f.1),())).bind λ(k,_)=>(c3 (i.length+k.length)).bind λ_=>Y (.inl ((i++k),())))
 |.inr d=>Y d) λc=>match c with
 |.inl (n,_)=>(Y (.inl (bN.wrap (e+(1:Z)),n,())))
 |.inr d=>Y d) else Y (.inr (.inl (b,())))) ((0:Z),[],())).bind λc=>match c with
 |.inl (j,_)=>(Y (j,(((j.length:X):Z)==h),()))
 |.inr d=>Y d
def Fi:(dN×Z×bz)->ams:=λ(a,g,_)=>(bif bw ((((a.2.2.1).length:X):Z)<bN.wrap (a.2.1-a.1)) then Y (bu,()) else((loop (σ:=er) (ρ:=ed) (λ(b,_)=>bif bw (b<(((a.2.2.1).length:X):Z)) then(bE (α:=bz⊕dO) ((az a.2.2.1 b).bind λc=>bE (α:=ep) (bB (bw (b<bN.wrap (a.2.1-a.1))==bt) (Y ((c !=bN.wrap (a.1+b)),())) (Y (bu,()))) λ(f,_)=>bB f (bB f (Y (.inr (.inr (.inr (bu,()))))) (Y (.inl ()))) (bB (bw (b>=bN.wrap (a.2.1-a.1))==bt) (bB (bw (c<a.2.1)==bu) (bB (bw (c>=g)==bu) ((az a.2.2.1 (bN.wrap (b-(1:Z)))).bind λh=>bB (bw (c<=h)) (Y (.inr (.inr (.inr (bu,()))))) (Y (.inl ()))) (Y (.inr (.inr (.inr (bu,())))))) (Y (.inr (.inr (.inr (bu,())))))) (Y (.inl ())))) λd=>match d with
 |.inl _=>(Y (.inl (bN.wrap (b+(1:Z)),())))
 |.inr e=>Y e) else Y (.inr (.inl ()))) ((0:Z),())).bind λd=>match d with
 |.inl _=>(Y (bt,()))
 |.inr e=>Y e))
def Fh:(bp dN×amv×dN×bz)->ams:=λ(f,g,a,_)=>((hS (bN.wrap (a.2.1-a.1))).bind λd=>(Y ((a.2.2.1).length)).bind λe=>(iA d e (a.2.2.1).length).map λ_=>(d,e)).bind λb=>(bif (((((a.2.2.1).take b.2).drop b.1).length:X):Z)==(0:Z) then Y ((a.2.2.2.1==(-1:Z)),()) else(az (((a.2.2.1).take b.2).drop b.1) (0:Z)).bind λm=>(az g m).bind λn=>bif a.2.2.2.1 !=n then Y (bu,()) else((loop (σ:=er) (ρ:=ed) (λ(c,_)=>bB (bw (c<(((((a.2.2.1).take b.2).drop b.1).length:X):Z))) ((az (((a.2.2.1).take b.2).drop b.1) c).bind λk=>(az f a.2.2.2.1).bind λl=>(vR (l.2.2.1,k,())).bind λ(_,j,_)=>bB (!j) (Y (.inr (.inr (bu,())))) (Y (.inl (bN.wrap (c+(1:Z)),())))) (Y (.inr (.inl ())))) ((0:Z),())).bind λh=>match h with
 |.inl _=>(Y (bt,()))
 |.inr i=>Y i))
def Jn:(dN×amp×bz)->ams:=λ(a,b,_)=>b.bind λc=>(Fi (a,c,())).bind λ(aY,_)=>Y ((!aY),())
def I6:dq->amt:=λ(b,c,_)=>(loop (σ:=er) (ρ:=ef) (λ(a,_)=>bB (bw (a<((b.length:X):Z))) ((az b a).bind λg=>(Jn (g,c.1,())).bind λ(f,_)=>bB f (Y (.inr (.inr (a,())))) (Y (.inl (bN.wrap (a+(1:Z)),())))) (Y (.inr (.inl ())))) ((0:Z),())).bind λd=>match d with
 |.inl _=>(Y ((-1:Z),()))
 |.inr e=>Y e
def ED:dq->ams:=λ(c,a,_)=>(I6 (c,(a.1,()),())).bind λ(b,_)=>Y (bw (b>=(0:Z)),())
def Jo:(dN×bv dD×eu×bz)->ams:=λ(a,b,c,_)=>b.bind λe=>c.bind λf=>(Fh (e,f,a,())).bind λ(d,_)=>Y ((!d),())
def I7:dn->amt:=λ(c,b,_)=>(loop (σ:=er) (ρ:=ef) (λ(a,_)=>bB (bw (a<((c.length:X):Z))) ((az c a).bind λg=>(Jo (g,b.1,b.2.1,())).bind λ(f,_)=>bB f (Y (.inr (.inr (a,())))) (Y (.inl (bN.wrap (a+(1:Z)),())))) (Y (.inr (.inl ())))) ((0:Z),())).bind λd=>match d with
 |.inl _=>(Y ((-1:Z),()))
 |.inr e=>Y e
def EE:dn->ams:=λ(c,a,_)=>(I7 (c,(a.1,a.2.1,()),())).bind λ(b,_)=>Y (bw (b>=(0:Z)),())
def vW:(dU×bp dN×bz)->amt:=λ(c,d,_)=>(AA (c,())).bind λ(i,_)=>(bif i !=(0:Z) then Y (i,()) else((Fg (d,(((c.1).length:X):Z),())).bind λ(aY,p,_)=>bE (α:=ej⊕er) (bB ((!p)==bu) ((ED (d,(Y (((c.1).length:X):Z),()),())).bind λ(q,_)=>bB q (Y (.inr ((211:Z),()))) (Y (.inl (aY,())))) (Y (.inr ((211:Z),())))) λa=>match a with
 |.inl (h,_)=>((EE (d,(Y d,Y h,()),())).bind λ(r,_)=>bif r then Y ((211:Z),()) else((loop (σ:=eb) (ρ:=ef) (λ(e,l,_)=>bif bw (e<(((c.1).length:X):Z)) then((az c.1 e).bind λj=>(loop (σ:=eb) (ρ:=du) (λ(g,f,_)=>bif bw (g<((j.length:X):Z)) then(bE (α:=ej⊕(eb⊕du)) ((az j g).bind λk=>bB (bw (k>e)) (Y (.inl (f,()))) ((az f k).bind λs=>(az d s).bind λt=>(vR (t.2.2.1,e,())).bind λ(_,o,_)=>bB (!o) (Y (.inr (.inr (.inr (.inr (.inr ((211:Z),()))))))) (Y (.inl (f,()))))) λa=>match a with
 |.inl (m,_)=>(Y (.inl (bN.wrap (g+(1:Z)),m,())))
 |.inr b=>Y b) else Y (.inr (.inl (f,())))) ((0:Z),l,())).bind λa=>match a with
 |.inl (n,_)=>(Y (.inl (bN.wrap (e+(1:Z)),n,())))
 |.inr b=>Y b) else Y (.inr (.inl ()))) ((0:Z),h,())).bind λa=>match a with
 |.inl _=>(Y ((0:Z),()))
 |.inr b=>Y b))
 |.inr b=>Y b))
def EU:ea->ams:=λ(b,c,_)=>(bif ((b.length:X):Z)!=c then Y (bu,()) else((fR c c).bind λk=>(loop (σ:=dZ) (ρ:=ed) (λ(a,g,_)=>bif bw (a<c) then(bE (α:=eh⊕dC) (bE (α:=eh⊕(eh⊕dC)) ((az b a).bind λo=>bB (bw (o<(0:Z))==bu) ((az b a).bind λp=>bB (bw (p>=c)==bu) ((az b a).bind λq=>(bn g.length q).bind λj=>(be g j λi=>Y i).bind λm=>bB m (Y (.inr (.inr (.inr (.inr (bu,())))))) (Y (.inl (g,())))) (Y (.inr (.inr (.inr (.inr (bu,()))))))) (Y (.inr (.inr (.inr (.inr (bu,()))))))) λd=>match d with
 |.inl (f,_)=>((az b a).bind λn=>(bn f.length n).bind λh=>(be f h λ_=>Y (f.set h bt)).bind λr=>Y (.inl (r,())))
 |.inr e=>Y e) λd=>match d with
 |.inl (l,_)=>(Y (.inl (bN.wrap (a+(1:Z)),l,())))
 |.inr e=>Y e) else Y (.inr (.inl ()))) ((0:Z),bM k bu,())).bind λd=>match d with
 |.inl _=>(Y (bt,()))
 |.inr e=>Y e))
def tR:dF->bv dM:=λ(a,b,_)=>(yj (a,())).bind λ(c,_)=>(bB (c !=(0:Z)) (Y (([],()),c,())) (bB (((b.length:X):Z)!=(((a.1).length:X):Z)) (Y (([],()),(2:Z),())) ((EU (b,(((a.1).length:X):Z),())).bind λ(aY,_)=>bB (!aY) (Y (([],()),(90:Z),())) ((Fc (a,b,())).bind λ(d,e,_)=>Y (d,e,())))))
section
open Go
def CE (c:amv->eu) (a:amv):bv bD:=bif b5 a.length 1000000 then(c a).bind λb=>bif b5 b.length 1000000 then Y (bw ((anq b).length<a.length)) else br else br
end
def D3:dM->ams:=λ(b,a,_)=>(bB (bw (a>=(0:Z))==bt) (Y (bw (a<(((b.1).length:X):Z)),())) (Y (bu,())))
def x5:er->amt:=λ(a,_)=>bE (α:=eo) (bB (bw (a>=(65536:Z))) ((e8 ch a (16:Z)).bind λg=>Y (g,(16:Z),())) (Y (a,(0:Z),()))) λ(b,c,_)=>bE (α:=eo) (bB (bw (b>=(256:Z))) ((e8 ch b (8:Z)).bind λh=>Y (h,bN.wrap (c+(8:Z)),())) (Y (b,c,()))) λ(f,e,_)=>(rG F3 (aql.wrap f)).bind λd=>Y (bN.wrap (e+bN.wrap d),())
def OL:er->amt:=λ(a,_)=>bE (α:=eo) (bB (bw (a>=(4294967296:Z))) ((e8 bG a (32:Z)).bind λi=>Y (i,(32:Z),())) (Y (a,(0:Z),()))) λ(b,d,_)=>bE (α:=eo) (bB (bw (b>=(65536:Z))) ((e8 bG b (16:Z)).bind λj=>Y (j,bN.wrap (d+(16:Z)),())) (Y (b,d,()))) λ(c,e,_)=>bE (α:=eo) (bB (bw (c>=(256:Z))) ((e8 bG c (8:Z)).bind λk=>Y (k,bN.wrap (e+(8:Z)),())) (Y (c,e,()))) λ(h,g,_)=>(rG F3 (aql.wrap h)).bind λf=>Y (bN.wrap (g+bN.wrap f),())
def Eu:er->amt:=λ(b,_)=>(OL (b,())).bind λ(a,_)=>Y (a,())
def EM:(amv×Z×Z×bz)->bv ej:=λ(k,f,j,_)=>(loop (σ:=eb) (ρ:=ej) (λ(d,g,_)=>bif bw (d<j) then(loop (σ:=eb) (ρ:=ej) (λ(a,c,_)=>bE (α:=ej⊕dI) (bB (bw (a>f)==bt) ((bn c.length a).bind λu=>(be c u λq=>Y q).bind λy=>(bn c.length (bN.wrap (a-(1:Z)))).bind λr=>(be c r λn=>Y n).bind λz=>(vK (y,z,())).bind λ(x,_)=>bB x (Y (.inl (c,()))) (Y (.inr (.inr (c,()))))) (Y (.inr (.inr (c,()))))) λv=>match v with
 |.inl (b,_)=>((bn b.length (bN.wrap (a-(1:Z)))).bind λs=>(be b s λo=>Y o).bind λA=>(bn b.length a).bind λt=>(be b t λp=>Y p).bind λB=>(bn b.length a).bind λh=>(be b h λ_=>Y (b.set h A)).bind λe=>(bn e.length (bN.wrap (a-(1:Z)))).bind λi=>(be e i λ_=>Y (e.set i B)).bind λC=>Y (.inl (bN.wrap (a-(1:Z)),C,())))
 |.inr w=>Y w) (d,g,())).bind λ(l,_)=>Y (.inl (bN.wrap (d+(1:Z)),l,())) else Y (.inr (g,()))) (bN.wrap (f+(1:Z)),k,())).bind λ(m,_)=>Y (m,())
def EP:(amv×Z×Z×Z×bz)->bv ej:=λ(e,c,d,g,_)=>(loop (σ:=(Z×Z×Z×bD×bD×amv×bz)) (ρ:=ej) (λ(a,b,_,_,_,f,_)=>bB (bw (bN.wrap (b-a)<=(12:Z))) ((EM (f,a,b,())).bind λ(h,_)=>Y (.inr (h,()))) br) (c,d,g,bt,bt,e,())).bind Y
def AW:ej->bv ej:=λ(a,_)=>(Eu (bG.wrap ((a.length:X):Z),())).bind λ(c,_)=>(EP (a,(0:Z),((a.length:X):Z),c,())).bind λ(b,_)=>Y (b,())
def D2:amv×bz->ams:=λa=>(CE (λc=>(AW (c,())).map λd=>d.1) a.1).map λb=>(b,())
def IT:(Z×bv dU×bz)->ams:=λ(b,a,_)=>a.bind λc=>(D3 (c,b,())).bind λ(aY,_)=>Y ((!aY),())
def I8:dx->amt:=λ(b,c,_)=>(loop (σ:=er) (ρ:=ef) (λ(a,_)=>bB (bw (a<((b.length:X):Z))) ((az b a).bind λg=>(IT (g,c.1,())).bind λ(f,_)=>bB f (Y (.inr (.inr (a,())))) (Y (.inl (bN.wrap (a+(1:Z)),())))) (Y (.inr (.inl ())))) ((0:Z),())).bind λd=>match d with
 |.inl _=>(Y ((-1:Z),()))
 |.inr e=>Y e
def EG:dx->ams:=λ(c,a,_)=>(I8 (c,(a.1,()),())).bind λ(b,_)=>Y (bw (b>=(0:Z)),())
def DY:dF->amt:=λ(a,b,_)=>(AA (a,())).bind λ(c,_)=>(bB (c !=(0:Z)) (Y (c,())) (bB (((b.length:X):Z)!=(((a.1).length:X):Z)) (Y ((2:Z),())) ((EG (b,(Y a,()),())).bind λ(aY,_)=>bB (aY==bu) ((D2 (b,())).bind λ(d,_)=>bB d (Y ((90:Z),())) (Y ((0:Z),()))) (Y ((90:Z),())))))
def AC:er->bv dT:=λ(a,_)=>(fR a a).bind λe=>(loop (σ:=dR) (ρ:=dT) (λ(c,b,_)=>bB (bw (c<((((bM e []):ew).length:X):Z))) ((fR a a).bind λf=>(bn b.length c).bind λd=>(be b d λ_=>Y (b.set d (bM f bu))).bind λh=>Y (.inl (bN.wrap (c+(1:Z)),h,()))) (Y (.inr (b,())))) ((0:Z),bM e [],())).bind λ(g,_)=>Y (g,())
def AF:(ew×Z×Z×bz)->bv dT:=λ(a,d,e,_)=>(bB (d !=e) ((bn a.length d).bind λb=>(bn a.length e).bind λc=>((be a b λm=>Y m).bind λn=>bn n.length e).bind λi=>(be a b λg=>(be g i λ_=>Y (g.set i bt)).map λo=>a.set b o).bind λf=>((be f c λk=>Y k).bind λl=>bn l.length d).bind λj=>(be f c λh=>(be h j λ_=>Y (h.set j bt)).map λp=>f.set c p).bind λq=>Y (q,())) (Y (a,())))
def DZ:(ew×Z×bz)->bv ej:=λ(f,g,_)=>(az f g).bind λc=>(loop (σ:=eb) (ρ:=ej) (λ(a,b,_)=>bB (bw (a<((c.length:X):Z))) (bE (α:=ej) ((az c a).bind λh=>bB h ((c3 (b.length+([a]).length)).bind λ_=>Y ((b++[a]),())) (Y (b,()))) λ(d,_)=>Y (.inl (bN.wrap (a+(1:Z)),d,()))) (Y (.inr (b,())))) ((0:Z),[],())).bind λ(e,_)=>Y (e,())
def AE:dT->bv dQ:=λ(b,_)=>(fR ((b.length:X):Z) ((b.length:X):Z)).bind λg=>(loop (σ:=dv) (ρ:=dw) (λ(c,e,a,_)=>bB (bw (c<((b.length:X):Z))) ((DZ (b,c,())).bind λ(h,_)=>(bn (a.1).length c).bind λd=>((be a.1 d λ_=>Y ((a.1).set d h)).map λi=>(i,a.2)).bind λj=>Y (.inl (bN.wrap (c+(1:Z)),e,j,()))) (Y (.inr (e,a,())))) ((0:Z),([],()),(bM g [],()),())).bind λ(_,f,_)=>Y (f,())
def D1:dF->bv dQ:=λ(k,a,_)=>(AC (((a.length:X):Z),())).bind λ(o,_)=>(loop (σ:=dy) (ρ:=dz) (λ(b,i,j,_)=>bif bw (b<((a.length:X):Z)) then(az a b).bind λv=>((Y (0)).bind λg=>(hS b).bind λh=>(iA g h a.length).map λ_=>(g,h)).bind λc=>(loop (σ:=dy) (ρ:=dz) (λ(d,e,f,_)=>bif bw (d<((((a.take c.2).drop c.1).length:X):Z)) then bE (α:=dz) ((az ((a.take c.2).drop c.1) d).bind λu=>(xW (k,v,u,())).bind λ(m,_)=>bB m ((AF (f,b,d,())).bind λ(l,_)=>Y (e,l,())) (Y (e,f,()))) λ(p,q,_)=>
 Y (.inl (bN.wrap (d+(1:Z)),p,q,())) else Y (.inr (e,f,()))) ((0:Z),i,j,())).bind λ(r,s,_)=>Y (.inl (bN.wrap (b+(1:Z)),r,s,())) else Y (.inr (i,j,()))) ((0:Z),([],()),o,())).bind λ(_,t,_)=>(AE (t,())).bind λ(n,_)=>Y (n,())
def AD:dF->bv dM:=λ(a,b,_)=>(DY (a,b,())).bind λ(c,_)=>(bB (c !=(0:Z)) (Y (([],()),c,())) ((D1 (a,b,())).bind λ(aY,_)=>Y (aY,(0:Z),())))
def vJ:eo->amt:=λ(a,b,_)=>(tG (a,())).bind λ(c,_)=>(tG (b,())).bind λ(aY,_)=>(bB c (bB aY (Y ((0:Z),())) (Y ((-1:Z),()))) (bB aY (Y ((1:Z),())) (bB (bw (a<b)) (Y ((-1:Z),())) (bB (bw (a>b)) (Y ((1:Z),())) (Y ((0:Z),()))))))
def DE:ej->amt:=λ(b,_)=>(loop (σ:=er) (ρ:=ef) (λ(a,_)=>bB (bw (a<((b.length:X):Z))) ((az b a).bind λc=>bB (c !=(0:Z)) (Y (.inr (.inr (c,())))) (Y (.inl (bN.wrap (a+(1:Z)),())))) (Y (.inr (.inl ())))) ((0:Z),())).bind λd=>match d with
 |.inl _=>(Y ((0:Z),()))
 |.inr e=>Y e
def EV:ea->amt:=λ(b,a,_)=>(bB (bw (a<((b.length:X):Z))) ((az b a).bind λc=>Y (c,())) (Y ((0:Z),())))
abbrev cR:Type:=amv
abbrev hC:Type:=(cR×bz)
abbrev fm:Type:=(bD×hC)
abbrev c7:Type:=er
abbrev fB:Type:=(bD×(fm×c7))
abbrev H6:Type:=(cR×(cR×hC))
abbrev tu:Type:=(bp fB)
abbrev xD:Type:=(Z×(Z×(tu×bz)))
abbrev lE:Type:=(bp (Z×(Z×c7)))
abbrev gq:Type:=(Z×(Z×H6))
abbrev hQ:Type:=ep
abbrev r6:Type:=(Z×((bp cR×bz)×(bp (bv (bp (Z×fB)×X))×bz)))
abbrev km:Type:=(bp (Z×(Z×(cR×c7))))
abbrev g4:Type:=(fB×bz)
abbrev g5:Type:=(fm×bz)
abbrev mF:Type:=(fB×fB×bz)
abbrev jk:Type:=(Z×cR×bz)
abbrev hD:Type:=amr
abbrev qP:Type:=(bz⊕hQ)
abbrev Ns:Type:=(Z×xD×xD×bz)
abbrev kn:Type:=(lE×bz)
abbrev Nt:Type:=(xD×xD×bz)
abbrev VR:Type:=(lE×Z×Z×Z×bz×bz)
abbrev o3:Type:=(Z×lE×bz)
abbrev m7:Type:=(cR×cR×bz)
abbrev m8:Type:=(fm×fm×bz)
abbrev pT:Type:=(bz⊕c7)
abbrev o4:Type:=(cR×Z×bz)
abbrev pU:Type:=eo
abbrev VS:Type:=(xD×Z×bz)
abbrev kW:Type:=(km×bp hD×bz)
abbrev z6:Type:=(Z×Z×lE×bz)
abbrev xE:Type:=(bD×(fm×(Z×hQ)))
abbrev qQ:Type:=(Z×Z×cR×bz)
abbrev qR:Type:=(fm×Z×bz)
abbrev o5:Type:=(gq×bz)
def pb:hC->bv hC:=λ(c,_)=>(loop (σ:=c7) (ρ:=c7) (λ(a,_)=>bE (α:=bz⊕(c7⊕c7)) (bB (bw (a>0)==bt) ((az c (aD (a-1))).bind λj=>bB (j==0) (Y (.inl ())) (Y (.inr (.inr (a,()))))) (Y (.inr (.inr (a,()))))) λh=>match h with
 |.inl _=>(Y (.inl (aD (a-1),())))
 |.inr i=>Y i) (au c,())).bind λ(f,_)=>(loop (σ:=jk) (ρ:=hC) (λ(b,d,_)=>bB (bw (b<f)) ((az c b).bind λe=>(c3 (d.length+([e]).length)).bind λ_=>Y (.inl (aT b,(d++[e]),()))) (Y (.inr (d,())))) (0,[],())).bind λ(g,_)=>Y (g,())
def nL:(bD×cR×bz)->bv g5:=λ(c,b,_)=>(pb (b,())).bind λ(a,_)=>(bB (c==bt) (Y ((bw (au a>0),(a,())),())) (Y ((bu,(a,())),())))
def yg:c7->bv g5:=λ(a,_)=>bE (α:=(Z×fm×bz)) (bB (bw (a<0)) (Y (aS (aS (aD (0-aT a))+1),(bu,([],())),())) (Y (aS a,(bu,([],())),()))) λ(b,_,_)=>(e8 bG b 32).bind λd=>(nL (bw (a<0),[eY b,eY d],())).bind λ(c,_)=>Y (c,())
def tP:g5->bv g5:=λ(a,_)=>(nL (a.1,a.2.1,())).bind λ(b,_)=>Y (b,())
def tQ:bz->bv g4:=λ_=>Y ((bt,((bu,([],())),((0:Z),()))),())
def x6:c7->bv c7:=λ(a,_)=>(bB (a==0) (Y (32,())) ((e8 ch (eY (fo ch a (eY (0-a))*125613361)) 27).bind λb=>(az qW b).bind λc=>Y (aD c,())))
def sj:g5->bv c7:=λ(c,_)=>(pb (c.2.1,())).bind λ(b,_)=>(loop (σ:=c7) (ρ:=pT) (λ(a,_)=>bB (bw (a<au b)) ((az b a).bind λg=>bB (g !=0) ((az b a).bind λh=>(x6 (h,())).bind λ(f,_)=>Y (.inr (.inr (aD (aD (32*a)+f),())))) (Y (.inl (aT a,())))) (Y (.inr (.inl ())))) (0,())).bind λd=>match d with
 |.inl _=>(Y (0,()))
 |.inr e=>Y e
def A0:g5->bv g5:=λ(a,_)=>(nL (bu,a.2.1,())).bind λ(b,_)=>Y (b,())
def E1:o4->bv hC:=λ(f,g,_)=>(kN bN g 32).bind λi=>(fR i i).bind λj=>(loop (σ:=qQ) (ρ:=jk) (λ(a,b,c,_)=>bB (bw (b<au f)) ((az f b).bind λl=>(jH g 32).bind λm=>(js bG (aS l) m).bind λd=>(c3 (c.length+([eY (hu bG a d)]).length)).bind λ_=>(e8 bG (hu bG a d) 32).bind λk=>Y (.inl (k,aT b,(c++[eY (hu bG a d)]),()))) (Y (.inr (a,c,())))) (0,0,bM j (0:Z),())).bind λ(e,h,_)=>(c3 (h.length+([eY e]).length)).bind λ_=>Y ((h++[eY e]),())
def A4:o4->bv (cR×bD×bz):=λ(b,d,_)=>(loop (σ:=en) (ρ:=hQ) (λ(e,c,_)=>bE (α:=bz⊕(en⊕hQ)) ((kN bN d 32).bind λw=>bB (bw (c<w)==bt) (bB (bw (c<au b)) (Y (.inl ())) (Y (.inr (.inr (e,()))))) (Y (.inr (.inr (e,()))))) λt=>match t with
 |.inl _=>(bE (α:=hQ) (bB (e==bu) ((az b c).bind λx=>Y ((x !=0),())) (Y (bt,()))) λ(m,_)=>Y (.inl (m,aT c,())))
 |.inr u=>Y u) (bu,0,())).bind λ(n,_)=>(jH d 32).bind λj=>(kN bN d 32).bind λy=>(loop (σ:=(bD×Z×cR×bz)) (ρ:=(bD×cR×bz)) (λ(f,a,g,_)=>bif bw (a<au b) then bE (α:=(bD×cR×bz)) ((az b a).bind λk=>bE (α:=jk) (bB (bw (aT a<au b)) ((az b (aT a)).bind λz=>(js bG (aS z) 32).bind λA=>Y (hu bG (aS k) A,g,())) (Y (aS k,g,()))) λ(v,h,_)=>bE (α:=(bD×cR×bz)) ((kN bN d 32).bind λB=>bB ((a==B)==bt) ((az b a).bind λC=>(js ch 1 j).bind λD=>bB (fo ch C (eY (D-1))!=0) (Y (bt,h,())) (Y (f,h,()))) (Y (f,h,()))) λ(o,i,_)=>(e8 bG v j).bind λl=>(c3 (i.length+([eY l]).length)).bind λ_=>Y (o,(i++[eY l]),())) λ(p,r,_)=>Y (.inl (p,aT a,r,())) else
 Y (.inr (f,g,()))) (n,y,[],())).bind λ(q,s,_)=>Y (s,q,())
def A3:g5->bv g5:=λ(a,_)=>(nL ((!a.1),a.2.1,())).bind λ(b,_)=>Y (b,())
def EZ:m7->bv hC:=λ(b,c,_)=>(loop (σ:=qQ) (ρ:=jk) (λ(e,a,f,_)=>bB (bw (a<(if(au c)>au b then au c else au b))) (bE (α:=jk) (bE (α:=jk) (bB (bw (a<au b)) ((az b a).bind λo=>Y (aS (e+aS o),f,())) (Y (e,f,()))) λ(h,k,_)=>bE (α:=jk) (bB (bw (a<au c)) ((az c a).bind λp=>Y (aS (h+aS p),k,())) (Y (h,k,()))) λ(d,i,_)=>(c3 (i.length+([eY d]).length)).bind λ_=>(e8 bG d 32).bind λn=>Y (n,(i++[eY d]),())) λ(l,m,_)=>Y (.inl (l,aT a,m,()))) (Y (.inr (e,f,())))) (0,0,[],())).bind λ(g,j,_)=>(c3 (j.length+([eY g]).length)).bind λ_=>Y ((j++[eY g]),())
def E0:m7->bv c7:=λ(b,c,_)=>(bif au b !=au c then bB (bw (au b<au c)) (Y ((-1:Z),())) (Y (1,())) else((loop (σ:=c7) (ρ:=pT) (λ(a,_)=>bB (bw (a>=0)) ((az b a).bind λf=>(az c a).bind λg=>bB (f !=g) ((az b a).bind λh=>(az c a).bind λi=>bB (bw (h<i)) (Y (.inr (.inr ((-1:Z),())))) (Y (.inr (.inr (1,()))))) (Y (.inl (aD (a-1),())))) (Y (.inr (.inl ())))) (aD (au b-1),())).bind λd=>match d with
 |.inl _=>(Y (0,()))
 |.inr e=>Y e))
def A5:m7->bv hC:=λ(d,e,_)=>(loop (σ:=qQ) (ρ:=hC) (λ(f,a,b,_)=>bB (bw (a<au d)) (bE (α:=jk) ((az d a).bind λh=>bE (α:=jk) (bB (bw (a<au e)) ((az e a).bind λm=>Y (aS (aS (aS h-f)-aS m),b,())) (Y (aS (aS h-f),b,()))) λ(c,g,_)=>(c3 (g.length+([eY c]).length)).bind λ_=>(e8 bG c 63).bind λl=>Y (l,(g++[eY c]),())) λ(i,j,_)=>Y (.inl (i,aT a,j,()))) (Y (.inr (b,())))) (0,0,[],())).bind λ(k,_)=>Y (k,())
def yf:m8->bv g5:=λ(a,c,_)=>(pb (a.2.1,())).bind λ(b,_)=>(pb (c.2.1,())).bind λ(aY,_)=>(bB (a.1==c.1) ((EZ (b,aY,())).bind λ(f,_)=>(nL (a.1,f,())).bind λ(g,_)=>Y (g,())) ((E0 (b,aY,())).bind λ(h,_)=>bB (bw (h>=0)) ((A5 (b,aY,())).bind λ(i,_)=>(nL (a.1,i,())).bind λ(j,_)=>Y (j,())) ((A5 (aY,b,())).bind λ(d,_)=>(nL (c.1,d,())).bind λ(e,_)=>Y (e,()))))
def EY:m8->bv g5:=λ(a,b,_)=>(A3 (b,())).bind λ(c,_)=>(yf (a,c,())).bind λ(aY,_)=>Y (aY,())
def p2:qR->bv g5:=λ(f,b,_)=>(tP (f,())).bind λ(a,_)=>(bB (bw (b>=0)) ((E1 (a.2.1,b,())).bind λ(aY,_)=>(nL (a.1,aY,())).bind λ(j,_)=>Y (j,())) ((A4 (a.2.1,aD (0-b),())).bind λ(k,l,_)=>(nL (a.1,k,())).bind λ(d,_)=>bE (α:=m8) (bE (α:=(bD×fm×fm×bz)) (bB (a.1==bt) (Y (l,(bu,([],())),d,())) (Y (bu,(bu,([],())),d,()))) λ(m,e,c,_)=>bB m ((yg (1,())).bind λ(h,_)=>(EY (c,h,())).bind λ(i,_)=>Y (e,i,())) (Y (e,c,()))) λ(_,g,_)=>Y (g,())))
def yi:qR->bv g5:=λ(d,f,_)=>(loop (σ:=(Z×fm×fm×bz)) (ρ:=(Z×fm×fm×bz)) (λ(a,b,c,_)=>bB (bw (a>1048576)) ((p2 (b,(-1048576:Z),())).bind λ(i,_)=>Y (.inl (aD (a-1048576),i,c,()))) (Y (.inr (a,b,c,())))) (f,d,(bu,([],())),())).bind λ(g,e,_,_)=>(p2 (e,aD (0-g),())).bind λ(h,_)=>Y (h,())
def A1:g5->bv c7:=λ(b,_)=>(pb (b.2.1,())).bind λ(a,_)=>(bB (au a==0) (Y (0,())) ((az a (aD (au a-1))).bind λc=>(x5 (c,())).bind λ(aY,_)=>Y (aD (aD (32*aD (au a-1))+aY),())))
def p3:qR->bv g4:=λ(e,a,_)=>(tP (e,())).bind λ(c,_)=>(bif au c.2.1==0 then Y ((bu,((bu,([],())),((0:Z),()))),()) else bif bw (a>65536) then(tQ ()).bind λ(aY,_)=>Y (aY,()) else((sj (c,())).bind λ(b,_)=>(A0 (c,())).bind λ(k,_)=>(yi (k,b,())).bind λ(d,_)=>bE (α:=(fB×fm×bz)⊕g4) (bE (α:=(bD×fB×fm×bz)) (bB (bw (aD (a+b)<(-65536:Z))==bu) ((A1 (d,())).bind λ(l,_)=>Y (bw (aD (aD (a+b)+l)>65536),(bu,((bu,([],())),((0:Z),()))),d,())) (Y (bt,(bu,((bu,([],())),((0:Z),()))),d,()))) λ(n,m,f,_)=>bB n ((tQ ()).bind λ(j,_)=>Y (.inr (j,()))) (Y (.inl (m,f,())))) λh=>match h with
 |.inl (_,g,_)=>(Y ((bu,((e.1,g.2),(aD (a+b),()))),()))
 |.inr i=>Y i))
def E3:c7->bv g4:=λ(a,_)=>(yg (a,())).bind λ(b,_)=>(p3 (b,0,())).bind λ(c,_)=>Y (c,())
def q1:g4->bv g4:=λ(a,_)=>(bB a.1 ((tQ ()).bind λ(b,_)=>Y (b,())) ((p3 (a.2.1,a.2.2.1,())).bind λ(c,_)=>Y (c,())))
def si:g5->bv c7:=λ(b,_)=>(tP (b,())).bind λ(a,_)=>(bB (au a.2.1==0) (Y (0,())) (bB a.1 (Y ((-1:Z),())) (Y (1,()))))
def sk:en->bv c7:=λ(b,a,_)=>(bB b (Y (hu bG a 9223372036854775808,())) (Y (a,())))
def A8:en->bv c7:=λ(a,b,_)=>bE (α:=bz⊕c7) (bE (α:=hQ) (bB ((b==3)==bu) (bB ((b==1)==bt) (bB ((!a)==bu) (bB ((b==2)==bt) (Y (a,())) (Y (bu,()))) (Y (bt,()))) (bB ((b==2)==bt) (Y (a,())) (Y (bu,())))) (Y (bt,()))) λ(f,_)=>bB f ((sk (a,9218868437227405311,())).bind λ(aY,_)=>Y (.inr (aY,()))) (Y (.inl ()))) λc=>match c with
 |.inl _=>((sk (a,9218868437227405312,())).bind λ(e,_)=>Y (e,()))
 |.inr d=>Y d
def A2:qR->bv hQ:=λ(a,b,_)=>(pb (a.2.1,())).bind λ(c,_)=>(A4 (c,b,())).bind λ(_,d,_)=>Y (d,())
def E5:(bD×Z×bD×Z×bz)->bv hQ:=λ(c,b,d,a,_)=>(bB (a==1) (Y (c,())) (bB (a==2) (Y ((!c),())) (bB (a==3) (Y (bu,())) (bB (bw (b>0)==bu) (bB ((b==0)==bt) (Y (d,())) (Y (bu,()))) (Y (bt,()))))))
def E2:(bD×fm×Z×bD×Z×bz)->bv g5:=λ(q,b,a,h,p,_)=>(yi (b,a,())).bind λ(l,_)=>(A2 (b,a,())).bind λ(D,_)=>bE (α:=m8⊕g5) (bE (α:=(bD×fm×fm×bz)) (bB ((!D)==bt) (Y ((!h),(bu,([],())),l,())) (Y (bu,(bu,([],())),l,()))) λ(F,G,i,_)=>bB F (Y (.inr (i,()))) (Y (.inl (G,i,())))) λs=>match s with
 |.inl (g,f,_)=>(bE (α:=(Z×fm×fm×bz)) (bB (bw (a>0)) ((yi (b,aD (a-1),())).bind λ(k,_)=>bE (α:=(bD×fm×fm×bz)) ((sj (k,())).bind λ(v,_)=>bB ((v==0)==bt) ((si (k,())).bind λ(w,_)=>Y ((w !=0),g,f,())) (Y (bu,g,f,()))) λ(E,e,c,_)=>bB E (bB (h==bu) ((A2 (b,aD (a-1),())).bind λ(x,_)=>bB x (Y (1,e,c,())) (Y (0,e,c,()))) (Y (1,e,c,()))) (Y ((-1:Z),e,c,()))) (Y ((-1:Z),g,f,()))) λ(o,m,d,_)=>bE (α:=(bD×fm×fm×bz)) ((si (d,())).bind λ(y,_)=>bB ((y !=0)==bt) ((sj (d,())).bind λ(z,_)=>Y ((z==0),m,d,())) (Y (bu,m,d,()))) λ(r,n,j,_)=>bE (α:=m8) ((E5 (q,o,r,p,())).bind λ(A,_)=>
  bB A ((yg (1,())).bind λ(B,_)=>(yf (j,B,())).bind λ(C,_)=>Y (n,C,())) (Y (n,j,()))) λ(_,t,_)=>Y (t,()))
 |.inr u=>Y u
def EX:g5->bv ei:=λ(f,_)=>(tP (f,())).bind λ(d,_)=>(bB (bw (au d.2.1>2)) (Y (0,bu,())) ((loop (σ:=(Z×Z×fm×bz)) (ρ:=(Z×fm×bz)) (λ(e,b,a,_)=>bB (bw (b<au a.2.1)) ((az a.2.1 b).bind λh=>(js bG (aS h) (aD (32*b))).bind λi=>Y (.inl (hu bG e i,aT b,a,()))) (Y (.inr (e,a,())))) (0,0,d,())).bind λ(c,g,_)=>bB g.1 (bB (bw (c>9223372036854775808)) (Y (0,bu,())) (Y (aD (aD (0-aD (aS (c-1)))-1),bt,()))) (bB (bw (c>9223372036854775807)) (Y (0,bu,())) (Y (aD c,bt,())))))
def E8:(bD×fm×Z×bD×Z×bz)->bv c7:=λ(c,e,a,i,f,_)=>(A1 (e,())).bind λ(b,_)=>(bif bw (aD (aD (a+b)-1)>=1024) then(A8 (c,f,())).bind λ(p,_)=>Y (p,()) else(bE (α:=g5) (bB (bw ((if(-1074:Z)>aD (aD (aD (a+b)-1)-52) then(-1074:Z) else aD (aD (aD (a+b)-1)-52))>=a)) ((E2 (c,e,aD ((if(-1074:Z)>aD (aD (aD (a+b)-1)-52) then(-1074:Z) else aD (aD (aD (a+b)-1)-52))-a),i,f,())).bind λ(q,_)=>Y (q,())) ((p2 (e,aD (a-(if(-1074:Z)>aD (aD (aD (a+b)-1)-52) then(-1074:Z) else aD (aD (aD (a+b)-1)-52))),())).bind λ(r,_)=>Y (r,()))) λ(j,_)=>(EX (j,())).bind λ(g,_,_)=>bE (α:=pU) (bif g==9007199254740992 then Y (aT (if(-1074:Z)>aD (aD (aD (a+b)-1)-52) then(-1074:Z) else aD (aD (aD (a+b)-1)-52)),4503599627370496,()) else
 Y ((if(-1074:Z)>aD (aD (aD (a+b)-1)-52) then(-1074:Z) else aD (aD (aD (a+b)-1)-52)),g,())) λ(h,d,_)=>bE (α:=bz⊕c7) (bE (α:=hQ) (bB (bw (d>=4503599627370496)==bt) (Y (bw (aD (h+53)>1024),())) (Y (bu,()))) λ(s,_)=>bB s ((A8 (c,f,())).bind λ(m,_)=>Y (.inr (m,()))) (bB (bw (d>=4503599627370496)) ((js bG (aS (aD (h+1075))) 52).bind λt=>(sk (c,hu bG t (aS (aD (d-4503599627370496))),())).bind λ(n,_)=>Y (.inr (n,()))) (Y (.inl ())))) λk=>match k with
 |.inl _=>((sk (c,aS d,())).bind λ(o,_)=>Y (o,()))
 |.inr l=>Y l))
def E7:(fB×Z×bz)->bv c7:=λ(b,c,_)=>(q1 (b,())).bind λ(a,_)=>(bB a.1 (Y (9221120237041090560,())) ((si (a.2.1,())).bind λ(aY,_)=>bB (aY==0) (Y (0,())) ((A0 (a.2.1,())).bind λ(d,_)=>(E8 (a.2.1.1,d,a.2.2.1,bu,c,())).bind λ(e,_)=>Y (e,()))))
def xV:c7->bv pU:=λ(a,_)=>(e8 bG a 52).bind λb=>Y (aD (fo bG b 2047),fo bG a 4503599627370495,())
def pa:c7->bv hQ:=λ(a,_)=>(xV (a,())).bind λ(b,_,_)=>Y ((b !=2047),())
def i6:hC->bv hC:=λ(b,_)=>(loop (σ:=c7) (ρ:=c7) (λ(a,_)=>bE (α:=bz⊕(c7⊕c7)) (bB (bw (a>0)==bt) ((az b (aD (a-1))).bind λi=>bB (i==0) (Y (.inl ())) (Y (.inr (.inr (a,()))))) (Y (.inr (.inr (a,()))))) λg=>match g with
 |.inl _=>(Y (.inl (aD (a-1),())))
 |.inr h=>Y h) (au b,())).bind λ(f,_)=>((Y (0)).bind λc=>(hS f).bind λd=>(iA c d b.length).map λ_=>(c,d)).bind λe=>Y (((b.take e.2).drop e.1),())
def mJ:(bD×cR×bz)->bv g5:=λ(c,b,_)=>(i6 (b,())).bind λ(a,_)=>(bB (au a==0) (Y ((bu,(([]:cR),())),())) (Y ((c,(a,())),())))
def sf:c7->bv g5:=λ(a,_)=>bE (α:=(Z×fm×bz)) (bB (bw (a<0)) (Y (aS (0-aS a),(bu,([],())),())) (Y (aS a,(bu,([],())),()))) λ(b,_,_)=>(e8 bG b 32).bind λd=>(mJ (bw (a<0),[eY (fo bG b 4294967295),eY d],())).bind λ(c,_)=>Y (c,())
def DW:c7->bv hQ:=λ(a,_)=>Y ((fo bG a 9223372036854775808 !=0),())
def x9:hC->bv hC:=λ(a,_)=>(c3 (([]:cR).length+a.length)).bind λ_=>Y (([]++a),())
def sg:g5->bv g5:=λ(a,_)=>(x9 (a.2.1,())).bind λ(b,_)=>(mJ ((!a.1),b,())).bind λ(c,_)=>Y (c,())
def vL:bz->bv g4:=λ_=>Y ((bt,((bu,([],())),((0:Z),()))),())
def tM:g5->bv g5:=λ(a,_)=>(x9 (a.2.1,())).bind λ(b,_)=>(mJ (a.1,b,())).bind λ(c,_)=>Y (c,())
def oj:g5->bv c7:=λ(a,_)=>(i6 (a.2.1,())).bind λ(b,_)=>(bB (au b==0) (Y (0,())) (bB a.1 (Y ((-1:Z),())) (Y (1,()))))
def AH:g5->bv c7:=λ(b,_)=>(loop (σ:=c7) (ρ:=pT) (λ(a,_)=>bB (bw (a<au b.2.1)) ((az b.2.1 a).bind λc=>bB (c !=0) ((x6 (c,())).bind λ(aY,_)=>Y (.inr (.inr (aD (aD (a*32)+aY),())))) (Y (.inl (aT a,())))) (Y (.inr (.inl ())))) (0,())).bind λd=>match d with
 |.inl _=>(Y (0,()))
 |.inr e=>Y e
def AK:hC->bv c7:=λ(a,_)=>(bB (au a==0) (Y (0,())) ((az a (aD (au a-1))).bind λc=>(x5 (c,())).bind λ(b,_)=>Y (aD (aD (aD (au a-1)*32)+b),())))
def tL:g5->bv c7:=λ(a,_)=>(i6 (a.2.1,())).bind λ(b,_)=>(AK (b,())).bind λ(c,_)=>Y (c,())
def x1:o4->bv hC:=λ(b,e,_)=>(bB (au b==0) (Y ([],())) ((kN bN e 32).bind λc=>(jH e 32).bind λj=>(fR (aT (aD (c+au b))) (aT (aD (c+au b)))).bind λg=>(loop (σ:=jk) (ρ:=hC) (λ(a,d,_)=>bB (bw (a<au b)) ((az b a).bind λk=>(js bG (aS k) (aS j)).bind λf=>rd d (aD (c+a)) λl=>wr d (aD (c+a)) (hu ch l (eY (fo bG f 4294967295))) λn=>(e8 bG f 32).bind λm=>wr n (aT (aD (c+a))) (eY m) λo=>Y (.inl (aT a,o,()))) (Y (.inr (d,())))) (0,bM g (0:Z),())).bind λ(h,_)=>(i6 (h,())).bind λ(i,_)=>Y (i,())))
def IV:c7->bv hQ:=λ(a,_)=>Y ((a !=0),())
def I9:(cR×bz×bz)->bv c7:=λ(b,_,_)=>(loop (σ:=c7) (ρ:=pT) (λ(a,_)=>bB (bw (a<au b)) ((az b a).bind λf=>(IV (f,())).bind λ(e,_)=>bB e (Y (.inr (.inr (a,())))) (Y (.inl (aT a,())))) (Y (.inr (.inl ())))) (0,())).bind λc=>match c with
 |.inl _=>(Y ((-1:Z),()))
 |.inr d=>Y d
def AU:(cR×bz×bz)->bv hQ:=λ(b,_,_)=>(I9 (b,(),())).bind λ(a,_)=>Y (bw (a>=0),())
def AJ:o4->bv (cR×bD×bz):=λ(a,h,_)=>(kN bN h 32).bind λb=>(jH h 32).bind λj=>(bif bw (b>=au a) then Y ([],bw (au a>0),()) else bE (α:=hQ) (((Y (0)).bind λe=>(hS b).bind λf=>(iA e f a.length).map λ_=>(e,f)).bind λi=>(AU (((a.take i.2).drop i.1),(),())).bind λ(p,_)=>bB (p==bu) ((az a b).bind λs=>(js ch 1 (aS j)).bind λt=>Y ((fo ch s (eY (t-1))!=0),())) (Y (bt,()))) λ(l,_)=>(fR (aD (au a-b)) (aD (au a-b))).bind λg=>(loop (σ:=jk) (ρ:=hC) (λ(c,d,_)=>bif bw (c<au (bM g (0:Z))) then bE (α:=hC) ((az a (aD (b+c))).bind λk=>bE (α:=jk) (bB (bw (aT (aD (b+c))<au a)) ((az a (aT (aD (b+c)))).bind λu=>(js bG (aS u) 32).bind λv=>Y (hu bG (aS k) v,d,())) (Y (aS k,d,()))) λ(r,m,_)=>
 (e8 bG r (aS j)).bind λw=>wr m c (eY (fo bG w 4294967295)) λx=>Y (x,())) λ(n,_)=>Y (.inl (aT c,n,())) else Y (.inr (d,()))) (0,bM g (0:Z),())).bind λ(o,_)=>(i6 (o,())).bind λ(q,_)=>Y (q,l,()))
def x0:m7->bv hC:=λ(b,d,_)=>bE (α:=m7) (bB (bw (au b<au d)) (Y (d,b,())) (Y (b,d,()))) λ(c,h,_)=>(fR 0 (aT (au c))).bind λn=>(loop (σ:=qQ) (ρ:=jk) (λ(e,a,f,_)=>bB (bw (a<au c)) (bE (α:=jk) ((az c a).bind λl=>bE (α:=jk) (bB (bw (a<au h)) ((az h a).bind λq=>Y (aS (aS (aS l+e)+aS q),f,())) (Y (aS (aS l+e),f,()))) λ(g,j,_)=>(c3 (j.length+([eY (fo bG g 4294967295)]).length)).bind λ_=>(e8 bG g 32).bind λr=>Y (r,(j++[eY (fo bG g 4294967295)]),())) λ(m,o,_)=>Y (.inl (m,aT a,o,()))) (Y (.inr (e,f,())))) (0,0,bM n (0:Z),())).bind λ(i,k,_)=>(c3 (k.length+([eY i]).length)).bind λ_=>(i6 ((k++[eY i]),())).bind λ(p,_)=>Y (p,())
def qZ:qR->bv qR:=λ(b,a,_)=>bE (α:=g5⊕qR) (bE (α:=(bD×fm×bz)) (bB (bw (a<(-1048576:Z))==bu) (Y (bw (a>1048576),(bu,([],())),())) (Y (bt,(bu,([],())),()))) λ(p,q,_)=>bB p (Y (.inr ((bu,(([]:cR),())),3,()))) (Y (.inl (q,())))) λh=>match h with
 |.inl (f,_)=>((i6 (b.2.1,())).bind λ(c,_)=>bB (bw (a>=0)) ((x1 (c,a,())).bind λ(m,_)=>(mJ (b.1,m,())).bind λ(n,_)=>Y (n,0,())) ((AJ (c,aD (0-a),())).bind λ(d,j,_)=>bE (α:=(cR×fm×bz)) (bE (α:=(bD×fm×bz)) (bB (b.1==bt) (Y (j,f,())) (Y (bu,f,()))) λ(o,e,_)=>bB o ((x0 (d,[1],())).bind λ(k,_)=>Y (k,e,())) (Y (d,e,()))) λ(g,_,_)=>(mJ (b.1,g,())).bind λ(l,_)=>Y (l,0,())))
 |.inr i=>Y i
def Aw:qR->bv g5:=λ(d,f,_)=>(loop (σ:=(Z×fm×fm×bz)) (ρ:=(Z×fm×fm×bz)) (λ(a,b,c,_)=>bB (bw (a>1048576)) ((qZ (b,(-1048576:Z),())).bind λ(i,_,_)=>Y (.inl (aD (a-1048576),i,c,()))) (Y (.inr (a,b,c,())))) (f,d,(bu,([],())),())).bind λ(g,e,_,_)=>(qZ (e,aD (0-g),())).bind λ(h,_,_)=>Y (h,())
def nf:g4->bv (fB×bD×bz):=λ(a,_)=>(bif a.1 then(vL ()).bind λ(j,_)=>Y (j,bu,()) else(tM (a.2.1,())).bind λ(b,_)=>(oj (b,())).bind λ(aY,_)=>bif aY==0 then Y ((bu,((bu,([],())),((0:Z),()))),bt,()) else((AH (b,())).bind λ(c,_)=>bE (α:=(fB×fm×bz)⊕(fB×bD×bz)) (bE (α:=(bD×fB×fm×bz)) ((tL (b,())).bind λ(k,_)=>bB (bw (a.2.2.1>aD (65536-k))==bu) (Y (bw (a.2.2.1<aD ((-65536:Z)-c)),(bu,((bu,([],())),((0:Z),()))),b,())) (Y (bt,(bu,((bu,([],())),((0:Z),()))),b,()))) λ(l,m,e,_)=>bB l ((vL ()).bind λ(h,_)=>Y (.inr (h,bu,()))) (Y (.inl (m,e,())))) λf=>match f with
 |.inl (_,d,_)=>((Aw (d,c,())).bind λ(i,_)=>Y ((bu,(i,(aD (a.2.2.1+c),()))),bt,()))
 |.inr g=>Y g))
def se:qR->bv g4:=λ(b,a,_)=>(nf ((bu,(b,(a,()))),())).bind λ(c,_,_)=>Y (c,())
def kb:c7->bv g4:=λ(b,_)=>(xV (b,())).bind λ(a,c,_)=>bE (α:=(Z×Z×fB×bz)⊕g4) (bB (a==2047) (Y (.inr ((bt,((bu,([],())),((0:Z),()))),()))) (bB (a==0) (Y (.inl ((-1074:Z),c,(bu,((bu,([],())),((0:Z),()))),()))) (Y (.inl (aD (a-1075),hu bG c 4503599627370496,(bu,((bu,([],())),((0:Z),()))),()))))) λi=>match i with
 |.inl (f,g,e,_)=>((sf (aD g,())).bind λ(d,_)=>bE (α:=(fB×fm×bz)) ((DW (b,())).bind λ(l,_)=>bB l ((sg (d,())).bind λ(m,_)=>Y (e,m,())) (Y (e,d,()))) λ(_,h,_)=>(se (h,f,())).bind λ(k,_)=>Y (k,()))
 |.inr j=>Y j
def xT:mF->bv (fB×fB×bD×bz):=λ(c,d,_)=>(nf (c,())).bind λ(a,aY,_)=>(nf (d,())).bind λ(b,e,_)=>(bB (aY==bt) (Y (a,b,e,())) (Y (a,b,bu,())))
def Eb:m7->bv hC:=λ(c,a,_)=>bE (α:=bz⊕hC) (bB ((au c==0)==bu) (bB (au a==0) (Y (.inr ([],()))) (Y (.inl ()))) (Y (.inr ([],())))) λo=>match o with
 |.inl _=>((fR (aD (au c+au a)) (aD (au c+au a))).bind λl=>(loop (σ:=jk) (ρ:=hC) (λ(b,g,_)=>bB (bw (b<au c)) ((az c b).bind λh=>(loop (σ:=qQ) (ρ:=jk) (λ(e,d,f,_)=>bB (bw (d<au a)) ((az a d).bind λi=>rd f (aD (b+d)) λj=>wr f (aD (b+d)) (eY (fo bG (aS (aS (aS (aS h*aS i)+aS j)+e)) 4294967295)) λs=>(e8 bG (aS (aS (aS (aS h*aS i)+aS j)+e)) 32).bind λr=>Y (.inl (r,aT d,s,()))) (Y (.inr (e,f,())))) (0,0,g,())).bind λ(k,m,_)=>wr m (aD (b+au a)) (eY k) λt=>Y (.inl (aT b,t,()))) (Y (.inr (g,())))) (0,bM l (0:Z),())).bind λ(n,_)=>(i6 (n,())).bind λ(q,_)=>Y (q,()))
 |.inr p=>Y p
def AG:m8->bv g5:=λ(a,b,_)=>(i6 (a.2.1,())).bind λ(c,_)=>(i6 (b.2.1,())).bind λ(aY,_)=>(Eb (c,aY,())).bind λ(d,_)=>(mJ ((!(a.1==b.1)),d,())).bind λ(e,_)=>Y (e,())
def nc:mF->bv g4:=λ(b,c,_)=>(xT (b,c,())).bind λ(a,aY,d,_)=>(bB (!d) ((vL ()).bind λ(e,_)=>Y (e,())) ((AG (a.2.1,aY.2.1,())).bind λ(f,_)=>(se (f,aD (a.2.2.1+aY.2.2.1),())).bind λ(g,_)=>Y (g,())))
def DI:g4->bv g4:=λ(b,_)=>(nf (b,())).bind λ(a,d,_)=>bE (α:=mF) (bB d ((sg (a.2.1,())).bind λ(aY,_)=>Y ((a.1,(aY,a.2.2)),(bu,((bu,([],())),((0:Z),()))),())) (Y (a,(bu,((bu,([],())),((0:Z),()))),()))) λ(c,_,_)=>Y (c,())
def o9:qR->bv g5:=λ(a,b,_)=>(qZ (a,b,())).bind λ(c,_,_)=>Y (c,())
def DF:c7->bv hQ:=λ(a,_)=>Y ((a !=a),())
def DD:pU->bv c7:=λ(a,b,_)=>(DF (a,())).bind λ(c,_)=>(DF (b,())).bind λ(aY,_)=>(bB c (bB aY (Y (0,())) (Y ((-1:Z),()))) (bB aY (Y (1,())) (bB (bw (a<b)) (Y ((-1:Z),())) (bB (bw (a>b)) (Y (1,())) (Y (0,()))))))
def xY:m7->bv c7:=λ(b,c,_)=>(bif au b !=au c then(vJ (au b,au c,())).bind λ(f,_)=>Y (f,()) else((loop (σ:=c7) (ρ:=pT) (λ(a,_)=>bB (bw (a>=0)) ((az b a).bind λh=>(az c a).bind λi=>bB (h !=i) ((az b a).bind λj=>(az c a).bind λk=>(DD (j,k,())).bind λ(g,_)=>Y (.inr (.inr (g,())))) (Y (.inl (aD (a-1),())))) (Y (.inr (.inl ())))) (aD (au b-1),())).bind λd=>match d with
 |.inl _=>(Y (0,()))
 |.inr e=>Y e))
def xZ:m7->bv hC:=λ(b,d,_)=>(fR (au b) (au b)).bind λi=>(loop (σ:=qQ) (ρ:=hC) (λ(e,a,c,_)=>bB (bw (a<au b)) (bE (α:=jk) ((az b a).bind λg=>bE (α:=jk) (bB (bw (a<au d)) ((az d a).bind λn=>Y (aS (aS (aS g-e)-aS n),c,())) (Y (aS (aS g-e),c,()))) λ(f,j,_)=>wr j a (eY (fo bG f 4294967295)) λp=>(e8 bG f 32).bind λo=>Y (fo bG o 1,p,())) λ(h,k,_)=>Y (.inl (h,aT a,k,()))) (Y (.inr (c,())))) (0,0,bM i (0:Z),())).bind λ(l,_)=>(i6 (l,())).bind λ(m,_)=>Y (m,())
def p0:m8->bv g5:=λ(a,c,_)=>(i6 (a.2.1,())).bind λ(b,_)=>(i6 (c.2.1,())).bind λ(aY,_)=>(bB (a.1==c.1) ((x0 (b,aY,())).bind λ(f,_)=>(mJ (a.1,f,())).bind λ(g,_)=>Y (g,())) ((xY (b,aY,())).bind λ(h,_)=>bB (bw (h>=0)) ((xZ (b,aY,())).bind λ(i,_)=>(mJ (a.1,i,())).bind λ(j,_)=>Y (j,())) ((xZ (aY,b,())).bind λ(d,_)=>(mJ (c.1,d,())).bind λ(e,_)=>Y (e,()))))
def DN:(tu×bz)->bv g4:=λ(i,_)=>(loop (σ:=(Z×Z×fB×tu×bz)) (ρ:=((Z×fB×tu×bz)⊕g4)) (λ(c,e,k,b,_)=>bB (bw (e<au i)) ((az i e).bind λw=>(nf (w,())).bind λ(a,s,_)=>bB (!s) ((vL ()).bind λ(t,_)=>Y (.inr (.inr (t,())))) ((c3 (b.length+([a]).length)).bind λ_=>Y (.inl ((if a.2.2.1<c then a.2.2.1 else c),aT e,k,(b++[a]),())))) (Y (.inr (.inl (c,k,b,()))))) (0,0,(bu,((bu,([],())),((0:Z),()))),[],())).bind λn=>match n with
 |.inl (h,u,f,_)=>((loop (σ:=(Z×fB×tu×fm×bz)) (ρ:=(fB×fm×bz)) (λ(d,j,g,l,_)=>bB (bw (d<au f)) (rd g d λm=>(o9 (m.2.1,aD (m.2.2.1-h),())).bind λ(p,_)=>(p0 (l,p,())).bind λ(q,_)=>Y (.inl (aT d,j,g,q,()))) (Y (.inr (j,l,())))) (0,u,f,(bu,([],())),())).bind λ(_,v,_)=>(se (v,h,())).bind λ(r,_)=>Y (r,()))
 |.inr o=>Y o
def o8:g4->bv c7:=λ(a,_)=>(nf (a,())).bind λ(b,_,_)=>(oj (b.2.1,())).bind λ(aY,_)=>Y (aY,())
def tH:g4->bv g4:=λ(a,_)=>(nf (a,())).bind λ(b,_,_)=>Y (b,())
def Ea:o4->bv o4:=λ(a,c,_)=>(fR (au a) (au a)).bind λh=>(loop (σ:=qQ) (ρ:=jk) (λ(e,b,d,_)=>bB (bw (b>=0)) ((js bG e 32).bind λf=>(az a b).bind λg=>(kN bG (hu bG f (aS g)) (aS c)).bind λl=>wr d b (eY l) λn=>(jH (hu bG f (aS g)) (aS c)).bind λm=>Y (.inl (m,aD (b-1),n,()))) (Y (.inr (e,d,())))) (0,aD (au a-1),bM h (0:Z),())).bind λ(k,i,_)=>(i6 (i,())).bind λ(j,_)=>Y (j,eY k,())
def Et:c7->bv c7:=λ(b,_)=>(x5 (b,())).bind λ(a,_)=>Y (aD (32-a),())
def AI:((cR×X×X)×cR×bz)->bv o4:=λ(b,a,_)=>(bn (b.2.2-b.2.1) (au a)).bind λV=>(be b.1 (b.2.1+V) λP=>Y P).bind λdg=>(js bG (aS dg) 32).bind λI=>(bn (b.2.2-b.2.1) (aD (au a-1))).bind λav=>(be b.1 (b.2.1+av) λT=>Y T).bind λK=>(az a (aD (au a-1))).bind λbs=>(kN bG (hu bG I (aS K)) (aS bs)).bind λbx=>(az a (aD (au a-1))).bind λce=>(jH (hu bG I (aS K)) (aS ce)).bind λci=>(loop (σ:=(es×Z×Z×cR×bz)) (ρ:=(es×Z×cR×bz)) (λ(g,h,r,m,_)=>bE (α:=(es×cR×bz)⊕((es×Z×Z×cR×bz)⊕(es×Z×cR×bz))) (bif bw (h>4294967295)==bu then(az a (aD (au a-2))).bind λco=>(js bG r 32).bind λcs=>(bn (g.2-g.1) (aD (au a-2))).bind λU=>(be m (g.1+U) λN=>Y N).bind λcv=>bif bw (aS (h*aS co)>hu bG cs (aS cv)) then
 Y (.inl (g,m,())) else Y (.inr (.inr (g,h,m,()))) else Y (.inl (g,m,()))) λa0=>match a0 with
 |.inl (C,D,_)=>((az a (aD (au a-1))).bind λE=>bB (bw (aS (r+aS E)>4294967295)) (Y (.inr (C,aS (h-1),D,()))) (Y (.inl (C,aS (h-1),aS (r+aS E),D,()))))
 |.inr a3=>Y a3) (b.2,bx,ci,b.1,())).bind λ(a4,i,bl,_)=>(loop (σ:=(es×Z×Z×Z×cR×bz)) (ρ:=(es×Z×Z×cR×bz)) (λ(e,l,p,j,n,_)=>bB (bw (j<au a)) ((az a j).bind λu=>(e8 bG (aS (aS (i*aS u)+l)) 32).bind λc1=>(bn (e.2-e.1) j).bind λad=>(be n (e.1+ad) λO=>Y O).bind λF=>(bn (e.2-e.1) j).bind λy=>(be n (e.1+y) λ_=>Y (n.set (e.1+y) (eY (fo bG (aS (aS (aS F-fo bG (aS (aS (i*aS u)+l)) 4294967295)-p)) 4294967295)))).bind λd1=>(e8 bG (aS (aS (aS F-fo bG (aS (aS (i*aS u)+l)) 4294967295)-p)) 32).bind λc2=>Y (.inl (e,c1,fo bG c2 1,aT j,d1,()))) (Y (.inr (e,l,p,n,())))) (a4,0,0,0,bl,())).bind λ(c,x,w,s,_)=>(bn (c.2-c.1) (au a)).bind λam=>(be s (c.1+am) λQ=>Y Q).bind λG=>
 (bn (c.2-c.1) (au a)).bind λz=>(be s (c.1+z) λ_=>Y (s.set (c.1+z) (eY (fo bG (aS (aS (aS G-x)-w)) 4294967295)))).bind λv=>(e8 bG (aS (aS (aS G-x)-w)) 32).bind λdl=>(bif fo bG dl 1==0 then bB (bL c.1 b.2.1&&(bL c.2 b.2.2&&(bL v.length ((b.1).length)&&cg c.1 c.2))) (Y (v,eY i,())) br else(loop (σ:=(es×Z×Z×cR×bz)) (ρ:=(es×Z×cR×bz)) (λ(f,q,k,o,_)=>bB (bw (k<au a)) ((az a k).bind λH=>(bn (f.2-f.1) k).bind λan=>(be o (f.1+an) λR=>Y R).bind λJ=>(bn (f.2-f.1) k).bind λA=>(be o (f.1+A) λ_=>Y (o.set (f.1+A) (eY (fo bG (aS (aS (aS J+aS H)+q)) 4294967295)))).bind λd2=>(e8 bG (aS (aS (aS J+aS H)+q)) 32).bind λds=>Y (.inl (f,ds,aT k,d2,()))) (Y (.inr (f,q,o,())))) (c,0,0,v,())).bind λ(d,M,t,_)=>
 (bn (d.2-d.1) (au a)).bind λap=>(be t (d.1+ap) λS=>Y S).bind λd0=>(bn (d.2-d.1) (au a)).bind λB=>(be t (d.1+B) λ_=>Y (t.set (d.1+B) (eY (d0+eY M)))).bind λL=>bB (bL d.1 b.2.1&&(bL d.2 b.2.2&&(bL L.length ((b.1).length)&&cg d.1 d.2))) (Y (L,eY (aS (i-1)),())) br)
def D9:m7->bv m7:=λ(a,b,_)=>(xY (a,b,())).bind λ(t,_)=>(bif bw (t<0) then(x9 (a,())).bind λ(u,_)=>Y ([],u,()) else bif au b==1 then(az b 0).bind λC=>(Ea (a,C,())).bind λ(v,w,_)=>(i6 ([w],())).bind λ(x,_)=>Y (v,x,()) else(az b (aD (au b-1))).bind λD=>(Et (D,())).bind λ(h,_)=>(x1 (b,h,())).bind λ(e,_)=>(fR (aT (au a)) (aT (au a))).bind λc=>(x1 (a,h,())).bind λ(i,_)=>(fR (aD (au (ka (bM c (0:Z)) i 0 (bM c (0:Z)).length)-au e)) (aD (au (ka (bM c (0:Z)) i 0 (bM c (0:Z)).length)-au e))).bind λn=>(loop (σ:=(Z×cR×cR×bz)) (ρ:=m7) (λ(d,p,g,_)=>bif bw (d>=0) then((hS d).bind λj=>(hS (aT (aD (d+au e)))).bind λk=>(iA j k g.length).bind λ_=>(y4 g.length).map λ_=>(j,k)).bind λf=>
 bB (cg f.1 f.2) ((AI ((g,f.1,f.2),e,())).bind λ(r,y,_)=>wr p d y λE=>Y (.inl (aD (d-1),E,r,()))) br else Y (.inr (p,g,()))) (aD (au (bM n (0:Z))-1),bM n (0:Z),ka (bM c (0:Z)) i 0 (bM c (0:Z)).length,())).bind λ(s,q,_)=>((Y (0)).bind λl=>(hS (au e)).bind λm=>(iA l m q.length).map λ_=>(l,m)).bind λo=>(i6 (((q.take o.2).drop o.1),())).bind λ(z,_)=>(AJ (z,h,())).bind λ(A,_,_)=>(i6 (s,())).bind λ(B,_)=>Y (B,A,()))
def xX:m8->bv c7:=λ(b,c,_)=>(oj (b,())).bind λ(a,_)=>(oj (c,())).bind λ(aY,_)=>(bB (bw (a<aY)) (Y ((-1:Z),())) (bB (bw (a>aY)) (Y (1,())) ((i6 (b.2.1,())).bind λ(d,_)=>(i6 (c.2.1,())).bind λ(e,_)=>(xY (d,e,())).bind λ(f,_)=>Y (aD (a*f),()))))
def DK:(xE×bz)->bv c7:=λ(a,_)=>(tL (a.2.1,())).bind λ(b,_)=>Y (aD (aD (a.2.2.1+b)-1),())
def D8:m8->bv g5:=λ(b,a,_)=>(p0 (b,((!a.1),a.2),())).bind λ(c,_)=>Y (c,())
def Au:(xE×Z×bz)->bv (fm×Z×bD×bz):=λ(a,b,_)=>(tL (a.2.1,())).bind λ(h,_)=>(bB (bw (b>h)) (Y ((bu,(([]:cR),())),(-1:Z),bu,())) ((Aw (a.2.1,b,())).bind λ(aY,_)=>(o9 (aY,b,())).bind λ(i,_)=>(D8 (a.2.1,i,())).bind λ(c,_)=>(sf (1,())).bind λ(j,_)=>(o9 (j,aD (b-1),())).bind λ(k,_)=>(xX (c,k,())).bind λ(d,_)=>bE (α:=(Z×fm×fm×bz)) (bB ((d==0)==bt) (bB a.2.2.2.1 (Y (1,aY,c,())) (Y (d,aY,c,()))) (Y (d,aY,c,()))) λ(e,f,l,_)=>(oj (l,())).bind λ(g,_)=>bB ((g==0)==bt) (Y (f,e,(!a.2.2.2.1),())) (Y (f,e,bu,()))))
def DL:(xE×Z×Z×bz)->bv g5:=λ(c,e,d,_)=>bE (α:=(Z×bD×fm×fm×bz)) (bB (bw (e<=c.2.2.1)) ((o9 (c.2.1,aD (c.2.2.1-e),())).bind λ(aY,_)=>Y ((-1:Z),bt,(bu,([],())),aY,())) ((Au (c,aD (e-c.2.2.1),())).bind λ(s,t,u,_)=>Y (t,u,(bu,([],())),s,()))) λ(f,l,b,a,_)=>bE (α:=(bD×fm×fm×bz)) (bB l (Y (bu,b,a,())) (bB (d==1) (Y (c.1,b,a,())) (bB (d==2) (Y ((!c.1),b,a,())) (bB (d==3) (Y (bu,b,a,())) (bB (bw (f>0)==bu) (bB ((f==0)==bt) ((oj (a,())).bind λ(n,_)=>bB ((n !=0)==bt) ((AH (a,())).bind λ(o,_)=>Y ((o==0),b,a,())) (Y (bu,b,a,()))) (Y (bu,b,a,()))) (Y (bt,b,a,()))))))) λ(k,i,g,_)=>bE (α:=m8) (bB k ((sf (1,())).bind λ(p,_)=>(p0 (g,p,())).bind λ(q,_)=>Y (i,q,())) (Y (i,g,()))) λ(j,h,_)=>bE (α:=m8) (bB c.1 ((sg (h,())).bind λ(r,_)=>Y (j,r,())) (Y (j,h,()))) λ(_,m,_)=>Y (m,())
def tK:g5->bv g5:=λ(a,_)=>(x9 (a.2.1,())).bind λ(b,_)=>(mJ (bu,b,())).bind λ(c,_)=>Y (c,())
def D6:g5->bv ei:=λ(c,_)=>(i6 (c.2.1,())).bind λ(d,_)=>(bif bw (au d>2) then Y (0,bu,()) else((loop (σ:=pU) (ρ:=c7) (λ(e,b,_)=>bB (bw (b<au d)) ((az d b).bind λj=>(js bG (aS j) (aD (32*b))).bind λk=>Y (.inl (hu bG e k,aT b,()))) (Y (.inr (e,())))) (0,0,())).bind λ(a,_)=>bE (α:=bz⊕ei) (bE (α:=hQ) (bB (c.1==bt) (bB (bw (a>0)==bt) (Y (bw (a<=9223372036854775808),())) (Y (bu,()))) (Y (bu,()))) λ(h,_)=>bB h (Y (.inr (aD (aD (0-aD (aS (a-1)))-1),bt,()))) (bE (α:=hQ) (bB (bw (a<9223372036854775808)==bt) (bB ((!c.1)==bu) (Y ((a==0),())) (Y (bt,()))) (Y (bu,()))) λ(i,_)=>bB i (Y (.inr (aD a,bt,()))) (Y (.inl ())))) λf=>match f with
 |.inl _=>(Y (0,bu,()))
 |.inr g=>Y g))
def vM:ei->bv c7:=λ(a,b,_)=>(bB b (Y (hu bG a 9223372036854775808,())) (Y (a,())))
def DX:en->bv c7:=λ(a,b,_)=>bE (α:=bz⊕c7) (bE (α:=hQ) (bB ((b==3)==bu) (bB ((b==1)==bt) (bB ((!a)==bu) (bB ((b==2)==bt) (Y (a,())) (Y (bu,()))) (Y (bt,()))) (bB ((b==2)==bt) (Y (a,())) (Y (bu,())))) (Y (bt,()))) λ(f,_)=>bB f ((vM (9218868437227405311,a,())).bind λ(aY,_)=>Y (.inr (aY,()))) (Y (.inl ()))) λc=>match c with
 |.inl _=>((vM (9218868437227405312,a,())).bind λ(e,_)=>Y (e,()))
 |.inr d=>Y d
def Az:(xE×Z×bz)->bv c7:=λ(b,d,_)=>(DK (b,())).bind λ(a,_)=>(DL (b,(if(-1074:Z)>aD (a-52) then(-1074:Z) else aD (a-52)),d,())).bind λ(aY,_)=>(tK (aY,())).bind λ(j,_)=>(D6 (j,())).bind λ(f,_,_)=>bE (α:=pU) (bB (aS f==9007199254740992) (Y (aT (if(-1074:Z)>aD (a-52) then(-1074:Z) else aD (a-52)),4503599627370496,())) (Y ((if(-1074:Z)>aD (a-52) then(-1074:Z) else aD (a-52)),aS f,()))) λ(e,c,_)=>(bB (bw (c<4503599627370496)) ((vM (c,b.1,())).bind λ(g,_)=>Y (g,())) (bB (bw (aD (e+1075)>=2047)) ((DX (b.1,d,())).bind λ(h,_)=>Y (h,())) ((js bG (aS (aD (e+1075))) 52).bind λk=>(vM (hu bG k (aS (c-4503599627370496)),b.1,())).bind λ(i,_)=>Y (i,()))))
def Ay:c7->bv c7:=λ(c,_)=>(xV (c,())).bind λ(a,b,_)=>bE (α:=hQ) (bB ((a==2047)==bt) (Y ((b !=0),())) (Y (bu,()))) λ(d,_)=>(bB d (Y (3,())) (bB (a==2047) (Y (2,())) (bB ((a==0)==bt) (bB (b==0) (Y (0,())) (Y (1,()))) (Y (1,())))))
def vN:m8->bv (fm×fm×Z×bz):=λ(a,d,_)=>(i6 (d.2.1,())).bind λ(b,_)=>(bB (au b==0) (Y ((bu,(([]:cR),())),(bu,(([]:cR),())),8,())) ((i6 (a.2.1,())).bind λ(aY,_)=>(D9 (aY,b,())).bind λ(f,c,_)=>bE (α:=(cR×cR×fm×fm×bz)) (bE (α:=(bD×fm×fm×bz)) (bB (a.1==bt) (Y (bw (au c>0),(bu,([],())),(bu,([],())),())) (Y (bu,(bu,([],())),(bu,([],())),()))) λ(n,e,g,_)=>bB n ((x0 (f,[1],())).bind λ(j,_)=>(xZ (b,c,())).bind λ(k,_)=>Y (j,k,e,g,())) (Y (f,c,e,g,()))) λ(h,i,_,_,_)=>(mJ ((!(a.1==d.1)),h,())).bind λ(l,_)=>(mJ (bu,i,())).bind λ(m,_)=>Y (l,m,0,())))
def DJ:(fB×fB×Z×bz)->bv (xE×bz):=λ(a,b,c,_)=>(tL (b.2.1,())).bind λ(aY,_)=>(tL (a.2.1,())).bind λ(d,_)=>(tK (a.2.1,())).bind λ(g,_)=>(o9 (g,(if(aD (aD (aD (c+3)+aY)-d))>0 then aD (aD (aD (c+3)+aY)-d) else 0),())).bind λ(h,_)=>(tK (b.2.1,())).bind λ(i,_)=>(vN (h,i,())).bind λ(j,e,_,_)=>(oj (e,())).bind λ(f,_)=>Y (((!(a.2.1.1==b.2.1.1)),(j,(aD (aD (a.2.2.1-(if(aD (aD (aD (c+3)+aY)-d))>0 then aD (aD (aD (c+3)+aY)-d) else 0))-b.2.2.1),((f !=0),())))),())
def tJ:(fB×fB×Z×bz)->bv c7:=λ(c,f,h,_)=>(tH (c,())).bind λ(aY,_)=>(tH (f,())).bind λ(a,_)=>bE (α:=mF⊕c7) (bE (α:=(bD×fB×fB×bz)) (bB (aY.1==bu) (bB (a.1==bu) ((o8 (a,())).bind λ(n,_)=>Y ((n==0),aY,a,())) (Y (bt,aY,a,()))) (Y (bt,aY,a,()))) λ(o,b,g,_)=>bB o (Y (.inr (9221120237041090560,()))) ((o8 (b,())).bind λ(k,_)=>bB (k==0) (Y (.inr (0,()))) (Y (.inl (b,g,()))))) λi=>match i with
 |.inl (d,e,_)=>((DJ (d,e,56,())).bind λ(l,_)=>(Az (l,h,())).bind λ(m,_)=>Y (m,()))
 |.inr j=>Y j
def A6:c7->bv hQ:=λ(a,_)=>(e8 bG a 52).bind λb=>Y ((fo bG b 2047 !=2047),())
def E6:c7->bv hQ:=λ(a,_)=>Y ((fo bG a 9223372036854775808 !=0),())
def A7:c7->bv g4:=λ(a,_)=>(A6 (a,())).bind λ(f,_)=>(bB (!f) ((tQ ()).bind λ(g,_)=>Y (g,())) ((e8 bG a 52).bind λc=>bE (α:=(Z×Z×fB×bz)) (bB (bw (aD (fo bG c 2047)>0)) (Y (hu bG (fo bG a 4503599627370495) 4503599627370496,aD (aD (fo bG c 2047)-1075),(bu,((bu,([],())),((0:Z),()))),())) (Y (fo bG a 4503599627370495,(-1074:Z),(bu,((bu,([],())),((0:Z),()))),()))) λ(b,d,_,_)=>(E6 (a,())).bind λ(h,_)=>(e8 bG b 32).bind λi=>(p3 ((h,([eY b,eY i],())),d,())).bind λ(e,_)=>Y (e,())))
def Jg:m7->bv hC:=λ(d,b,_)=>(fR (aD (au d+au b)) (aD (au d+au b))).bind λl=>(loop (σ:=jk) (ρ:=hC) (λ(a,g,_)=>bB (bw (a<au d)) ((loop (σ:=qQ) (ρ:=jk) (λ(e,c,f,_)=>bB (bw (c<au b)) ((az d a).bind λj=>(az b c).bind λh=>rd f (aD (a+c)) λi=>wr f (aD (a+c)) (eY (aS (aS (e+aS (aS j*aS h))+aS i))) λp=>(e8 bG (aS (aS (e+aS (aS j*aS h))+aS i)) 32).bind λo=>Y (.inl (o,aT c,p,()))) (Y (.inr (e,f,())))) (0,0,g,())).bind λ(k,m,_)=>wr m (aD (a+au b)) (eY k) λq=>Y (.inl (aT a,q,()))) (Y (.inr (g,())))) (0,bM l (0:Z),())).bind λ(n,_)=>Y (n,())
def Jf:m8->bv g5:=λ(a,b,_)=>(pb (a.2.1,())).bind λ(c,_)=>(pb (b.2.1,())).bind λ(aY,_)=>(Jg (c,aY,())).bind λ(d,_)=>(nL ((!(a.1==b.1)),d,())).bind λ(e,_)=>Y (e,())
def Ji:mF->bv g4:=λ(d,f,_)=>(q1 (d,())).bind λ(a,_)=>(q1 (f,())).bind λ(aY,_)=>bE (α:=(fB×fB×fB×bz)⊕g4) (bE (α:=(bD×fB×fB×fB×bz)) (bB (a.1==bu) (Y (aY.1,a,aY,(bu,((bu,([],())),((0:Z),()))),())) (Y (bt,a,aY,(bu,((bu,([],())),((0:Z),()))),()))) λ(m,e,g,n,_)=>bB m ((tQ ()).bind λ(l,_)=>Y (.inr (l,()))) (Y (.inl (e,g,n,())))) λh=>match h with
 |.inl (b,c,_,_)=>((Jf (b.2.1,c.2.1,())).bind λ(j,_)=>(p3 (j,aD (b.2.2.1+c.2.2.1),())).bind λ(k,_)=>Y (k,()))
 |.inr i=>Y i
def Jj:g4->bv g4:=λ(b,_)=>(q1 (b,())).bind λ(a,_)=>(bB a.1 (Y (a,())) ((A3 (a.2.1,())).bind λ(c,_)=>(p3 (c,a.2.2.1,())).bind λ(aY,_)=>Y (aY,())))
def E4:(fB×Z×bz)->bv g4:=λ(i,b,_)=>(q1 (i,())).bind λ(a,_)=>bE (α:=mF⊕g4) (bE (α:=(bD×fB×fB×bz)) (bB (a.1==bu) ((si (a.2.1,())).bind λ(aY,_)=>Y ((aY==0),a,(bu,((bu,([],())),((0:Z),()))),())) (Y (bt,a,(bu,((bu,([],())),((0:Z),()))),()))) λ(o,f,p,_)=>bB o (Y (.inr (f,()))) (Y (.inl (f,p,())))) λc=>match c with
 |.inl (g,h,_)=>(bE (α:=mF⊕g4) (bE (α:=(bD×fB×fB×bz)) (bB (bw (b>262144)==bu) (Y (bw (b<(-262144:Z)),g,h,())) (Y (bt,g,h,()))) λ(m,j,n,_)=>bB m ((tQ ()).bind λ(k,_)=>Y (.inr (k,()))) (Y (.inl (j,n,())))) λc=>match c with
 |.inl (e,_,_)=>((p3 (e.2.1,aD (e.2.2.1+b),())).bind λ(l,_)=>Y (l,()))
 |.inr d=>Y d)
 |.inr d=>Y d
def yh:mF->bv (fm×fm×Z×bz):=λ(a,b,_)=>(si (a.2.1,())).bind λ(c,_)=>(bB (c==0) (Y (a.2.1,b.2.1,b.2.2.1,())) ((si (b.2.1,())).bind λ(aY,_)=>bB (aY==0) (Y (a.2.1,b.2.1,a.2.2.1,())) (bB (bw (a.2.2.1>b.2.2.1)) ((p2 (a.2.1,aD (a.2.2.1-b.2.2.1),())).bind λ(d,_)=>Y (d,b.2.1,b.2.2.1,())) ((p2 (b.2.1,aD (b.2.2.1-a.2.2.1),())).bind λ(e,_)=>Y (a.2.1,e,a.2.2.1,())))))
def Jh:mF->bv g4:=λ(b,f,_)=>(q1 (b,())).bind λ(a,_)=>(q1 (f,())).bind λ(aY,_)=>bE (α:=(fB×fB×fB×bz)⊕g4) (bE (α:=(bD×fB×fB×fB×bz)) (bB (a.1==bu) (Y (aY.1,a,aY,(bu,((bu,([],())),((0:Z),()))),())) (Y (bt,a,aY,(bu,((bu,([],())),((0:Z),()))),()))) λ(p,d,g,q,_)=>bB p ((tQ ()).bind λ(o,_)=>Y (.inr (o,()))) (Y (.inl (d,g,q,())))) λh=>match h with
 |.inl (c,e,_,_)=>((yh (c,e,())).bind λ(j,k,l,_)=>(yf (j,k,())).bind λ(m,_)=>(p3 (m,l,())).bind λ(n,_)=>Y (n,()))
 |.inr i=>Y i
def Jk:mF->bv g4:=λ(a,b,_)=>(Jj (b,())).bind λ(c,_)=>(Jh (a,c,())).bind λ(aY,_)=>Y (aY,())
def pZ:c7->bv g4:=λ(a,_)=>(sf (a,())).bind λ(b,_)=>(se (b,0,())).bind λ(c,_)=>Y (c,())
def Av:mF->bv (fm×fm×Z×bz):=λ(a,b,_)=>(o9 (a.2.1,aD (a.2.2.1-(if b.2.2.1<a.2.2.1 then b.2.2.1 else a.2.2.1)),())).bind λ(c,_)=>(o9 (b.2.1,aD (b.2.2.1-(if b.2.2.1<a.2.2.1 then b.2.2.1 else a.2.2.1)),())).bind λ(aY,_)=>Y (c,aY,(if b.2.2.1<a.2.2.1 then b.2.2.1 else a.2.2.1),())
def At:mF->bv g4:=λ(a,b,_)=>(xT (a,b,())).bind λ(e,aY,f,_)=>(bB (!f) ((vL ()).bind λ(g,_)=>Y (g,())) ((Av (e,aY,())).bind λ(h,i,j,_)=>(p0 (h,i,())).bind λ(c,_)=>(se (c,j,())).bind λ(d,_)=>Y (d,())))
def tI:mF->bv g4:=λ(a,b,_)=>(DI (b,())).bind λ(c,_)=>(At (a,c,())).bind λ(aY,_)=>Y (aY,())
def DG:g4->bv g4:=λ(b,_)=>(nf (b,())).bind λ(a,d,_)=>bE (α:=mF) (bB d ((tK (a.2.1,())).bind λ(aY,_)=>Y ((a.1,(aY,a.2.2)),(bu,((bu,([],())),((0:Z),()))),())) (Y (a,(bu,((bu,([],())),((0:Z),()))),()))) λ(c,_,_)=>Y (c,())
def xS:mF->bv ei:=λ(a,b,_)=>(xT (a,b,())).bind λ(c,aY,d,_)=>(bB (!d) (Y (0,bu,())) ((Av (c,aY,())).bind λ(e,f,_,_)=>(xX (e,f,())).bind λ(g,_)=>Y (g,bt,())))
def Xw:g4->bv hQ:=λ(a,_)=>(nf (a,())).bind λ(_,b,_)=>Y (b,())
def EB:ee->bv hQ:=λ(a,c,b,_)=>(bB (bw (a>=c)==bt) (Y (bw (a<=b),())) (Y (bu,())))
def EJ:hC->bv hQ:=λ(b,_)=>(loop (σ:=c7) (ρ:=qP) (λ(a,_)=>bB (bw (a>0)) ((az b a).bind λf=>(az b (aD (a-1))).bind λg=>(vK (f,g,())).bind λ(e,_)=>bB e (Y (.inr (.inr (bu,())))) (Y (.inl (aD (a-1),())))) (Y (.inr (.inl ())))) (aD (au b-1),())).bind λc=>match c with
 |.inl _=>(Y (bt,()))
 |.inr d=>Y d
def Ez:o5->bv hQ:=λ(a,_)=>bE (α:=bz⊕hQ) (bB ((au a.2.2.1 !=aT a.2.1)==bu) ((az a.2.2.1 0).bind λm=>bB ((m !=0)==bu) ((EJ (a.2.2.1,())).bind λ(l,_)=>bB ((!l)==bu) ((az a.2.2.1 a.2.1).bind λn=>bB ((n !=au a.2.2.2.1)==bu) (bB (au a.2.2.2.1 !=au a.2.2.2.2.1) (Y (.inr (bu,()))) (Y (.inl ()))) (Y (.inr (bu,())))) (Y (.inr (bu,())))) (Y (.inr (bu,())))) (Y (.inr (bu,())))) λb=>match b with
 |.inl _=>((loop (σ:=c7) (ρ:=qP) (λ(e,_)=>bif bw (e<a.2.1) then((az a.2.2.1 e).bind λo=>(az a.2.2.1 (aT e)).bind λp=>((hS o).bind λh=>(hS p).bind λi=>(iA h i (a.2.2.2.1).length).map λ_=>(h,i)).bind λd=>(loop (σ:=pU) (ρ:=(bz⊕(c7⊕qP))) (λ(j,f,_)=>bif bw (f<au (((a.2.2.2.1).take d.2).drop d.1)) then(bE (α:=c7⊕(pU⊕(bz⊕(c7⊕qP)))) ((az (((a.2.2.2.1).take d.2).drop d.1) f).bind λg=>bE (α:=bz⊕(c7⊕(pU⊕(bz⊕(c7⊕qP))))) (bB (bw (g<=j)==bu) (bB (bw (g>=a.1)) (Y (.inr (.inr (.inr (.inr (.inr (.inr (bu,())))))))) (Y (.inl ()))) (Y (.inr (.inr (.inr (.inr (.inr (.inr (bu,()))))))))) λb=>match b with
 |.inl _=>(Y (.inl (g,())))
 |.inr c=>Y c) λb=>match b with
 |.inl (k,_)=>(Y (.inl (k,aT f,())))
 |.inr c=>Y c) else Y (.inr (.inl ()))) ((-1:Z),0,())).bind λb=>match b with
 |.inl _=>(Y (.inl (aT e,())))
 |.inr c=>Y c) else Y (.inr (.inl ()))) (0,())).bind λb=>match b with
 |.inl _=>(Y (bt,()))
 |.inr c=>Y c)
 |.inr c=>Y c
def I3:c7->bv hQ:=λ(a,_)=>(pa (a,())).bind λ(b,_)=>Y ((!b),())
def I5:(cR×bz×bz)->bv c7:=λ(b,_,_)=>(loop (σ:=c7) (ρ:=pT) (λ(a,_)=>bB (bw (a<au b)) ((az b a).bind λf=>(I3 (f,())).bind λ(e,_)=>bB e (Y (.inr (.inr (a,())))) (Y (.inl (aT a,())))) (Y (.inr (.inl ())))) (0,())).bind λc=>match c with
 |.inl _=>(Y ((-1:Z),()))
 |.inr d=>Y d
def EC:(cR×bz×bz)->bv hQ:=λ(b,_,_)=>(I5 (b,(),())).bind λ(a,_)=>Y (bw (a>=0),())
def sh:o5->bv c7:=λ(a,_)=>bE (α:=hQ) ((EB (a.1,0,200,())).bind λ(b,_)=>bB ((!b)==bu) ((EB (a.2.1,0,200,())).bind λ(c,_)=>bB ((!c)==bu) (Y (bw (au a.2.2.2.1>10000),())) (Y (bt,()))) (Y (bt,()))) λ(f,_)=>(bB f (Y (6,())) ((Ez (a,())).bind λ(d,_)=>bB (!d) (Y (1,())) ((EC (a.2.2.2.2.1,(),())).bind λ(e,_)=>bB e (Y (4,())) (Y (0,())))))
def Fj:o4->bv (cR×bD×bz):=λ(h,a,_)=>(bif au h !=a then Y ([],bu,()) else((fR a a).bind λi=>(fR a a).bind λj=>(loop (σ:=(Z×cR×hD×bz)) (ρ:=(hC⊕(cR×bD×bz))) (λ(f,e,g,_)=>bif bw (f<au h) then(bE (α:=(cR×hD×bz)⊕((Z×cR×hD×bz)⊕(hC⊕(cR×bD×bz)))) ((az h f).bind λd=>bE (α:=(cR×hD×bz)⊕((cR×hD×bz)⊕((Z×cR×hD×bz)⊕(hC⊕(cR×bD×bz))))) (bE (α:=(bD×cR×hD×bz)) (bB (bw (d<0)==bu) (bB (bw (d>=a)==bu) (rd g d λs=>Y (s,e,g,())) (Y (bt,e,g,()))) (Y (bt,e,g,()))) λ(o,k,p,_)=>bB o (Y (.inr (.inr (.inr (.inr ([],bu,())))))) (Y (.inl (k,p,())))) λb=>match b with
 |.inl (l,q,_)=>(wr l d f λt=>wr q d bt λu=>Y (.inl (t,u,())))
 |.inr c=>Y c) λb=>match b with
 |.inl (m,r,_)=>(Y (.inl (aT f,m,r,())))
 |.inr c=>Y c) else Y (.inr (.inl (e,())))) (0,bM i (0:Z),bM j bu,())).bind λb=>match b with
 |.inl (n,_)=>(Y (n,bt,()))
 |.inr c=>Y c))
def x7:o5->bv kn:=λ(b,_)=>(loop (σ:=o3) (ρ:=kn) (λ(a,e,_)=>bB (bw (a<b.2.1)) ((az b.2.2.1 a).bind λj=>(loop (σ:=o3) (ρ:=kn) (λ(c,d,_)=>(az b.2.2.1 (aT a)).bind λk=>bB (bw (c<k)) ((az b.2.2.2.1 c).bind λf=>(az b.2.2.2.2.1 c).bind λg=>(c3 (d.length+([(f,(a,(g,())))]).length)).bind λ_=>Y (.inl (aT c,(d++[(f,(a,(g,())))]),()))) (Y (.inr (d,())))) (j,e,())).bind λ(h,_)=>Y (.inl (aT a,h,()))) (Y (.inr (e,())))) (0,[],())).bind λ(i,_)=>Y (i,())
def OM:kn->bv kn:=λ(a,_)=>(c3 (([]:lE).length+a.length)).bind λ_=>Y (([]++a),())
def x8:((Z×(Z×c7))×(Z×(Z×c7))×bz)->bv c7:=λ(a,b,_)=>(vJ (a.2.1,b.2.1,())).bind λ(c,_)=>(vJ (a.1,b.1,())).bind λ(aY,_)=>(DE ([c,aY],())).bind λ(d,_)=>Y (d,())
def AX:(lE×Z×Z×bz×bz)->bv kn:=λ(h,e,g,_,_)=>(loop (σ:=o3) (ρ:=kn) (λ(d,f,_)=>bif bw (d<g) then(loop (σ:=o3) (ρ:=kn) (λ(a,b,_)=>bE (α:=kn⊕(o3⊕kn)) (bB (bw (a>e)==bt) (rd b a λn=>rd b (aD (a-1)) λo=>(x8 (n,o,())).bind λ(m,_)=>bB (bw (m<0)) (Y (.inl (b,()))) (Y (.inr (.inr (b,()))))) (Y (.inr (.inr (b,()))))) λk=>match k with
 |.inl (c,_)=>(rd c (aD (a-1)) λp=>rd c a λq=>wr c a p λr=>wr r (aD (a-1)) q λs=>Y (.inl (aD (a-1),s,())))
 |.inr l=>Y l) (d,f,())).bind λ(i,_)=>Y (.inl (aT d,i,())) else Y (.inr (f,()))) (aT e,h,())).bind λ(j,_)=>Y (j,())
def EQ:VR->bv kn:=λ(h,e,a,g,_,_)=>(bB (aD (a-e)==1) br (bB (aD (g-a)==1) ((loop (σ:=z6) (ρ:=o3) (λ(c,d,b,_)=>bB (bw (c<d)) ((e8 bG (aS (aD (c+d))) 1).bind λf=>rd b a λo=>rd b (aD f) λp=>(x8 (o,p,())).bind λ(n,_)=>bB (!(bw (n<0))) (Y (.inl (aT (aD f),d,b,()))) br) (Y (.inr (c,b,())))) (e,a,h,())).bind λ(l,i,_)=>(loop (σ:=o3) (ρ:=kn) (λ(m,j,_)=>bB (bw (m>l)) br (Y (.inr (j,())))) (a,i,())).bind λ(k,_)=>Y (k,())) br))
def Jc:(lE×Z×bz×bz)->bv kn:=λ(l,a,_,_)=>(loop (σ:=z6) (ρ:=o3) (λ(e,c,h,_)=>bB (bw (c<=a)) ((AX (h,e,c,(),())).bind λ(s,_)=>Y (.inl (c,aD (c+20),s,()))) (Y (.inr (e,h,())))) (0,20,l,())).bind λ(j,p,_)=>(AX (p,j,a,(),())).bind λ(q,_)=>(loop (σ:=o3) (ρ:=kn) (λ(b,f,_)=>bB (bw (b<a)) ((loop (σ:=z6) (ρ:=o3) (λ(i,k,m,_)=>bB (bw (k<=a)) br (Y (.inr (i,m,())))) (0,aD (2*b),f,())).bind λ(d,g,_)=>bE (α:=kn) (bB (bw (aD (d+b)<a)) ((EQ (g,d,aD (d+b),a,(),())).bind λ(r,_)=>Y (r,())) (Y (g,()))) λ(n,_)=>Y (.inl (aD (b*2),n,()))) (Y (.inr (f,())))) (20,q,())).bind λ(o,_)=>
 Y (o,())
def Ja:(lE×bz×bz)->bv kn:=λ(a,_,_)=>(Jc (a,au a,(),())).bind λ(b,_)=>Y (b,())
def EA:kn->bv kn:=λ(a,_)=>(OM (a,())).bind λ(c,_)=>(Ja (c,(),())).bind λ(b,_)=>Y (b,())
def Ey:z6->bv o5:=λ(s,e,o,_)=>(fR (aT e) (aT e)).bind λr=>(EA (o,())).bind λ(i,_)=>(loop (σ:=(Z×gq×gq×lE×bz)) (ρ:=(gq×gq×bz)) (λ(f,k,a,l,_)=>bB (bw (f<au i)) (rd l f λc=>(c3 ((a.2.2.2.1).length+([c.1]).length)).bind λ_=>(c3 ((a.2.2.2.2.1).length+([c.2.2.1]).length)).bind λ_=>(bn (a.2.2.1).length (aT c.2.1)).bind λn=>(be a.2.2.1 n λm=>Y m).bind λu=>(bn (a.2.2.1).length (aT c.2.1)).bind λg=>((((be a.2.2.1 g λ_=>Y ((a.2.2.1).set g (aT u))).map λx=>(x,((a.2.2.2.1++[c.1]),((a.2.2.2.2.1++[c.2.2.1]),a.2.2.2.2.2)))).map λy=>(a.2.1,y)).map λz=>(a.1,z)).bind λA=>Y (.inl (aT f,k,A,l,()))) (Y (.inr (k,a,())))) (0,((0:Z),((0:Z),([],([],([],()))))),(s,(e,(bM r (0:Z),(([]:cR),(([]:cR),()))))),i,())).bind λ(t,p,_)=>(loop (σ:=(Z×gq×gq×bz)) (ρ:=(gq×gq×bz)) (λ(d,j,b,_)=>
 bB (bw (d<e)) (rd b.2.2.1 (aT d) λv=>rd b.2.2.1 d λw=>(bn (b.2.2.1).length (aT d)).bind λh=>((((be b.2.2.1 h λ_=>Y ((b.2.2.1).set h (aD (v+w)))).map λB=>(B,b.2.2.2)).map λC=>(b.2.1,C)).map λD=>(b.1,D)).bind λE=>Y (.inl (aT d,j,E,()))) (Y (.inr (j,b,())))) (0,t,p,())).bind λ(_,q,_)=>Y (q,())
def Ex:o5->bv (gq×Z×bz):=λ(a,_)=>(sh (a,())).bind λ(aY,_)=>(bB (aY !=0) (Y (((0:Z),((0:Z),(([]:cR),(([]:cR),(([]:cR),()))))),aY,())) ((x7 (a,())).bind λ(g,_)=>(loop (σ:=(Z×gq×lE×lE×bz)) (ρ:=(gq×lE×bz)) (λ(d,e,b,f,_)=>bB (bw (d<au g)) (bE (α:=(gq×lE×lE×bz)) (rd f d λc=>bB (bw (c.1>=c.2.1)) ((c3 (b.length+([c]).length)).bind λ_=>Y (e,(b++[c]),f,())) (Y (e,b,f,()))) λ(k,h,l,_)=>Y (.inl (aT d,k,h,l,()))) (Y (.inr (e,b,())))) (0,((0:Z),((0:Z),([],([],([],()))))),[],g,())).bind λ(_,i,_)=>(Ey (a.1,a.2.1,i,())).bind λ(j,_)=>Y (j,0,())))
def Ew:o5->bv kn:=λ(a,_)=>(sh (a,())).bind λ(aY,_)=>(bB (aY !=0) (Y ([],())) ((x7 (a,())).bind λ(b,_)=>Y (b,())))
def AB:o5->bv ((bp cR×bz)×Z×bz):=λ(a,_)=>(sh (a,())).bind λ(c,_)=>(bB (c !=0) (Y ((([]:bp cR),()),c,())) (bB (a.1 !=a.2.1) (Y ((([]:bp cR),()),5,())) ((AC (a.2.1,())).bind λ(j,_)=>(Ew (a,())).bind λ(aY,_)=>(loop (σ:=(Z×(bp cR×bz)×bp hD×lE×bz)) (ρ:=((bp cR×bz)×bp hD×bz)) (λ(b,d,e,f,_)=>bB (bw (b<au aY)) (rd f b λg=>(AF (e,g.1,g.2.1,())).bind λ(h,_)=>Y (.inl (aT b,d,h,f,()))) (Y (.inr (d,e,())))) (0,([],()),j,aY,())).bind λ(_,k,_)=>(AE (k,())).bind λ(i,_)=>Y (i,0,()))))
def tS:(gq×cR×bz)->bv (bv r6×Z×bz):=λ(a,q,_)=>(sh (a,())).bind λ(r,_)=>(bif r !=0 then Y (br,r,()) else bif a.1 !=a.2.1 then Y (br,5,()) else(Fj (q,a.2.1,())).bind λ(s,D,_)=>bif !D then Y (br,90,()) else(Ex (a,())).bind λ(E,_,_)=>(AB (E,())).bind λ(F,_,_)=>(AD (F,q,())).bind λ(G,_,_)=>(fR a.2.1 a.2.1).bind λp=>(loop (σ:=(Z×gq×r6×bz)) (ρ:=(gq×r6×bz)) (λ(j,k,c,_)=>bB (bw (j<au (bM p (br:bv (bp (Z×fB)×X))))) ((bn (c.2.2.1).length j).bind λn=>((((be c.2.2.1 n λ_=>Y ((c.2.2.1).set n (Y ([],0)))).map λL=>(L,c.2.2.2)).map λM=>(c.2.1,M)).map λN=>(c.1,N)).bind λO=>Y (.inl (aT j,k,O,()))) (Y (.inr (k,c,())))) (0,a,(a.2.1,(G,(bM p (br:bv (bp (Z×fB)×X)),()))),())).bind λ(l,y,_)=>
 (loop (σ:=(Z×gq×r6×bz)) (ρ:=(r6×bz)) (λ(e,m,o,_)=>bif bw (e<l.2.1) then(az m.2.2.1 e).bind λI=>(loop (σ:=(Z×gq×r6×bz)) (ρ:=(gq×r6×bz)) (λ(f,d,b,_)=>(az d.2.2.1 (aT e)).bind λJ=>bB (bw (f<J)) (bE (α:=(gq×r6×bz)) ((az d.2.2.2.1 f).bind λt=>bB (bw (t>=e)) ((az s t).bind λg=>(az s e).bind λh=>(bn (b.2.2.1).length (if h<g then h else g)).bind λi=>(az d.2.2.2.2.1 f).bind λK=>(kb (K,())).bind λ(H,_)=>(be b.2.2.1 i λw=>Y w).bind λB=>(uy B (if h>g then h else g) H).bind λC=>((((be b.2.2.1 i λ_=>Y ((b.2.2.1).set i C)).map λP=>(P,b.2.2.2)).map λQ=>(b.2.1,Q)).map λR=>(b.1,R)).bind λS=>Y (d,S,())) (Y (d,b,()))) λ(u,z,_)=>Y (.inl (aT f,u,z,()))) (Y (.inr (d,b,())))) (I,m,o,())).bind λ(v,A,_)=>
 Y (.inl (aT e,v,A,())) else Y (.inr (o,()))) (0,l,y,())).bind λ(x,_)=>Y (Y x,0,()))
def vX:(bv r6×Z×Z×bz)->bv g4:=λ(c,a,b,_)=>c.bind λd=>(az d.2.2.1 (if b<a then b else a)).bind λe=>Y (((gW (α:=fB) e (if b>a then b else a)).getD (bu,((bu,([],())),((0:Z),())))),())
def Xx:hC->bv hC:=λ(a,_)=>(c3 (([]:cR).length+a.length)).bind λ_=>Y (([]++a),())
def yb:pU->bv c7:=λ(a,b,_)=>(jH (aS a) (aS b)).bind λc=>Y (aD c,())
def yc:o4->bv c7:=λ(b,a,_)=>bE (α:=c7) (bB (bw (au b>0)) ((yb (a,au b,())).bind λ(e,_)=>(az b e).bind λf=>Y (uX bG (aS (aS (aT a)*11400714819323198485)) f,())) (Y (aS (aS (aT a)*11400714819323198485),()))) λ(c,_)=>(e8 bG c 31).bind λd=>(e8 bG (aS (uX bG c d*13787848793156543929)) 29).bind λg=>Y (uX bG (aS (uX bG c d*13787848793156543929)) g,())
def E9:hC->bv hQ:=λ(b,_)=>(loop (σ:=c7) (ρ:=qP) (λ(a,_)=>bB (bw (a<au b)) ((az b a).bind λe=>(A6 (e,())).bind λ(aY,_)=>bB (!aY) (Y (.inr (.inr (bu,())))) (Y (.inl (aT a,())))) (Y (.inr (.inl ())))) (0,())).bind λc=>match c with
 |.inl _=>(Y (bt,()))
 |.inr d=>Y d
def vS:o5->bv c7:=λ(a,_)=>bE (α:=bz⊕c7) (bB (bw (a.1<0)==bu) (bB (bw (a.1>200)==bu) (bB (bw (a.2.1<0)==bu) (bB (bw (a.2.1>200)==bu) (bB (bw (au a.2.2.2.1>10000)) (Y (.inr (6,()))) (Y (.inl ()))) (Y (.inr (6,())))) (Y (.inr (6,())))) (Y (.inr (6,())))) (Y (.inr (6,())))) λb=>match b with
 |.inl _=>(bE (α:=bz⊕c7) (bB ((au a.2.2.2.2.1 !=au a.2.2.2.1)==bu) (bB ((au a.2.2.1 !=aT a.2.1)==bu) ((az a.2.2.1 0).bind λn=>bB ((n !=0)==bu) ((az a.2.2.1 a.2.1).bind λo=>bB (o !=au a.2.2.2.1) (Y (.inr (1,()))) (Y (.inl ()))) (Y (.inr (1,())))) (Y (.inr (1,())))) (Y (.inr (1,())))) λb=>match b with
 |.inl _=>((loop (σ:=c7) (ρ:=pT) (λ(f,_)=>bB (bw (f<a.2.1)) ((az a.2.2.1 f).bind λp=>(az a.2.2.1 (aT f)).bind λq=>bB (bw (p>q)) (Y (.inr (.inr (1,())))) (Y (.inl (aT f,())))) (Y (.inr (.inl ())))) (0,())).bind λb=>match b with
 |.inl _=>((loop (σ:=c7) (ρ:=pT) (λ(e,_)=>bif bw (e<a.2.1) then((az a.2.2.1 e).bind λr=>(loop (σ:=c7) (ρ:=(bz⊕(c7⊕pT))) (λ(d,_)=>(az a.2.2.1 (aT e)).bind λh=>bif bw (d<h) then(bE (α:=bz⊕(c7⊕(bz⊕(c7⊕pT)))) ((az a.2.2.2.1 d).bind λi=>bB (bw (i<0)==bu) ((az a.2.2.2.1 d).bind λj=>bB (bw (j>=a.1)==bu) ((az a.2.2.1 e).bind λk=>bB (bw (d>k)==bt) ((az a.2.2.2.1 d).bind λl=>(az a.2.2.2.1 (aD (d-1))).bind λm=>bB (bw (l<=m)) (Y (.inr (.inr (.inr (.inr (.inr (1,()))))))) (Y (.inl ()))) (Y (.inl ()))) (Y (.inr (.inr (.inr (.inr (.inr (1,())))))))) (Y (.inr (.inr (.inr (.inr (.inr (1,())))))))) λb=>match b with
 |.inl _=>(Y (.inl (aT d,())))
 |.inr c=>Y c) else Y (.inr (.inl ()))) (r,())).bind λb=>match b with
 |.inl _=>(Y (.inl (aT e,())))
 |.inr c=>Y c) else Y (.inr (.inl ()))) (0,())).bind λb=>match b with
 |.inl _=>((E9 (a.2.2.2.2.1,())).bind λ(g,_)=>bB (!g) (Y (4,())) (Y (0,())))
 |.inr c=>Y c)
 |.inr c=>Y c)
 |.inr c=>Y c)
 |.inr c=>Y c
def ER:o4->bv hC:=λ(m,j,_)=>(loop (σ:=o4) (ρ:=hC) (λ(a,c,_)=>bB (bw (c<j)) ((yc (m,aD (700+c),())).bind λ(l,_)=>(e8 bG l 1).bind λn=>(yb (aD n,aT c,())).bind λ(i,_)=>((Y (0)).bind λg=>(hS i).bind λh=>(iA g h a.length).map λ_=>(g,h)).bind λb=>(c3 (([]:cR).length+((a.take b.2).drop b.1).length)).bind λ_=>(c3 (([]++((a.take b.2).drop b.1)).length+([c]).length)).bind λ_=>((hS i).bind λe=>(Y a.length).bind λf=>(iA e f a.length).map λ_=>(e,f)).bind λd=>(c3 ((([]++((a.take b.2).drop b.1))++[c]).length+((a.take d.2).drop d.1).length)).bind λ_=>Y (.inl (((([]++((a.take b.2).drop b.1))++[c])++((a.take d.2).drop d.1)),aT c,()))) (Y (.inr (a,())))) ([],0,())).bind λ(k,_)=>Y (k,())
def A9:o5->bv kn:=λ(b,_)=>(vS (b,())).bind λ(j,_)=>(bB (j !=0) (Y ([],())) ((loop (σ:=o3) (ρ:=kn) (λ(a,e,_)=>bB (bw (a<b.2.1)) ((az b.2.2.1 a).bind λk=>(loop (σ:=o3) (ρ:=kn) (λ(c,d,_)=>(az b.2.2.1 (aT a)).bind λl=>bB (bw (c<l)) ((az b.2.2.2.1 c).bind λf=>(az b.2.2.2.2.1 c).bind λg=>(c3 (d.length+([(f,(a,(g,())))]).length)).bind λ_=>Y (.inl (aT c,(d++[(f,(a,(g,())))]),()))) (Y (.inr (d,())))) (k,e,())).bind λ(h,_)=>Y (.inl (aT a,h,()))) (Y (.inr (e,())))) (0,[],())).bind λ(i,_)=>Y (i,())))
def vU:z6->bv o5:=λ(c,g,h,_)=>(fR (aD (c*g)) (aD (c*g))).bind λy=>(loop (σ:=(Z×gq×gq×cR×bz)) (ρ:=(gq×gq×cR×bz)) (λ(e,o,m,k,_)=>bB (bw (e<au h)) ((az h e).bind λD=>(az h e).bind λC=>wr k (aD (aD (D.2.1*c)+C.1)) (aT e) λE=>Y (.inl (aT e,o,m,E,()))) (Y (.inr (o,m,k,())))) (0,((0:Z),((0:Z),([],([],([],()))))),(c,(g,([0],(([]:cR),(([]:cR),()))))),bM y (0:Z),())).bind λ(z,v,r,_)=>(loop (σ:=(Z×gq×gq×cR×bz)) (ρ:=(gq×gq×bz)) (λ(i,n,l,s,_)=>bif bw (i<g) then(loop (σ:=(Z×gq×gq×cR×bz)) (ρ:=(gq×gq×cR×bz)) (λ(d,j,a,f,_)=>bif bw (d<c) then bE (α:=(gq×gq×cR×bz)) (rd f (aD (aD (i*c)+d)) λp=>bif bw (p>0) then(c3 ((a.2.2.2.1).length+([d]).length)).bind λ_=>(az h (aD (p-1))).bind λq=>
 (c3 ((a.2.2.2.2.1).length+([q.2.2.1]).length)).bind λ_=>Y (j,(a.1,(a.2.1,(a.2.2.1,((a.2.2.2.1++[d]),((a.2.2.2.2.1++[q.2.2.1]),a.2.2.2.2.2))))),f,()) else Y (j,a,f,())) λ(A,w,t,_)=>Y (.inl (aT d,A,w,t,())) else Y (.inr (j,a,f,()))) (0,n,l,s,())).bind λ(B,b,u,_)=>(c3 ((b.2.2.1).length+([au b.2.2.2.1]).length)).bind λ_=>Y (.inl (aT i,B,(b.1,(b.2.1,((b.2.2.1++[au b.2.2.2.1]),b.2.2.2))),u,())) else Y (.inr (n,l,()))) (0,z,v,r,())).bind λ(_,x,_)=>Y (x,())
def vT:o5->bv (gq×Z×bz):=λ(b,_)=>(vS (b,())).bind λ(aY,_)=>(bB (aY !=0) (Y (((0:Z),((0:Z),(([]:cR),(([]:cR),(([]:cR),()))))),aY,())) ((A9 (b,())).bind λ(d,_)=>(loop (σ:=(Z×gq×lE×bz)) (ρ:=(gq×lE×bz)) (λ(a,e,c,_)=>bB (bw (a<au d)) (bE (α:=(gq×lE×bz)) ((az d a).bind λl=>(az d a).bind λk=>bB (bw (l.1>=k.2.1)) ((az d a).bind λf=>(c3 (c.length+([f]).length)).bind λ_=>Y (e,(c++[f]),())) (Y (e,c,()))) λ(j,g,_)=>Y (.inl (aT a,j,g,()))) (Y (.inr (e,c,())))) (0,((0:Z),((0:Z),([],([],([],()))))),[],())).bind λ(_,h,_)=>(vU (b.1,b.2.1,h,())).bind λ(i,_)=>Y (i,0,())))
def vV:o5->bv ((bp cR×bz)×Z×bz):=λ(a,_)=>(vS (a,())).bind λ(g,_)=>(bB (g !=0) (Y ((([]:bp cR),()),g,())) (bB (a.1 !=a.2.1) (Y ((([]:bp cR),()),5,())) ((Bc (a.1,())).bind λ(l,_)=>(A9 (a,())).bind λ(aY,_)=>(loop (σ:=(Z×(bp cR×bz)×bp hD×bz)) (ρ:=((bp cR×bz)×bp hD×bz)) (λ(c,h,b,_)=>bB (bw (c<au aY)) ((az aY c).bind λo=>(bn b.length o.1).bind λd=>(az aY c).bind λn=>((be b d λi=>Y i).bind λj=>bn j.length n.2.1).bind λf=>(be b d λe=>(be e f λ_=>Y (e.set f bt)).map λp=>b.set d p).bind λq=>Y (.inl (aT c,h,q,()))) (Y (.inr (h,b,())))) (0,([],()),l,())).bind λ(_,m,_)=>(Ba (m,())).bind λ(k,_)=>Y (k,0,()))))
def Ff:pU->bv g4:=λ(a,b,_)=>(A7 (a,())).bind λ(c,_)=>(A7 (b,())).bind λ(aY,_)=>(Ji (c,aY,())).bind λ(d,_)=>Y (d,())
def OK:hC->bv hQ:=λ(a,_)=>(fR (au a) (au a)).bind λg=>(loop (σ:=(Z×hD×bz)) (ρ:=qP) (λ(e,f,_)=>bif bw (e<au a) then(bE (α:=(hD×bz)⊕((Z×hD×bz)⊕qP)) ((az a e).bind λd=>bE (α:=(hD×bz)⊕((hD×bz)⊕((Z×hD×bz)⊕qP))) (bB (bw (d<0)==bu) (bB (bw (d>=au a)==bu) (rd f d λj=>bB j (Y (.inr (.inr (.inr (.inr (bu,())))))) (Y (.inl (f,())))) (Y (.inr (.inr (.inr (.inr (bu,()))))))) (Y (.inr (.inr (.inr (.inr (bu,()))))))) λb=>match b with
 |.inl (i,_)=>(wr i d bt λk=>Y (.inl (k,())))
 |.inr c=>Y c) λb=>match b with
 |.inl (h,_)=>(Y (.inl (aT e,h,())))
 |.inr c=>Y c) else Y (.inr (.inl ()))) (0,bM g bu,())).bind λb=>match b with
 |.inl _=>(Y (bt,()))
 |.inr c=>Y c
def As:(gq×cR×bz)->bv VS:=λ(j,m,_)=>(tS (j,m,())).bind λ(b,f,_)=>(bB (f !=0) (Y (((0:Z),((0:Z),(([]:tu),()))),f,())) (b.bind λp=>bB (bw (p.1>64)) (Y (((0:Z),((0:Z),(([]:tu),()))),6,())) (b.bind λq=>b.bind λr=>b.bind λs=>(loop (σ:=Ns) (ρ:=Nt) (λ(c,h,e,_)=>bB (bw (c<s.1)) (b.bind λt=>(loop (σ:=Ns) (ρ:=Nt) (λ(d,i,a,_)=>bB (bw (d<t.1)) ((vX (b,d,c,())).bind λ(n,_)=>(tH (n,())).bind λ(g,_)=>(c3 ((a.2.2.1).length+([g]).length)).bind λ_=>Y (.inl (aT d,i,(a.1,(a.2.1,((a.2.2.1++[g]),a.2.2.2))),()))) (Y (.inr (i,a,())))) (0,h,e,())).bind λ(o,k,_)=>Y (.inl (aT c,o,k,()))) (Y (.inr (h,e,())))) (0,((0:Z),((0:Z),([],()))),(q.1,(r.1,(([]:tu),()))),())).bind λ(_,l,_)=>Y (l,0,()))))
def Je:m7->bv hQ:=λ(b,c,_)=>(bif au b !=au c then Y (bu,()) else((loop (σ:=c7) (ρ:=qP) (λ(a,_)=>bB (bw (a<au b)) ((az b a).bind λf=>(az c a).bind λg=>bB (f !=g) (Y (.inr (.inr (bu,())))) (Y (.inl (aT a,())))) (Y (.inr (.inl ())))) (0,())).bind λd=>match d with
 |.inl _=>(Y (bt,()))
 |.inr e=>Y e))
def Jd:m8->bv hQ:=λ(a,b,_)=>(bB ((a.1==b.1)==bt) ((Je (a.2.1,b.2.1,())).bind λ(c,_)=>Y (c,())) (Y (bu,())))
def ET:mF->bv hQ:=λ(a,b,_)=>(bB ((a.1==b.1)==bt) (bB ((a.2.2.1==b.2.2.1)==bt) ((Jd (a.2.1,b.2.1,())).bind λ(c,_)=>Y (c,())) (Y (bu,()))) (Y (bu,())))
def ya:(gq×cR×cR×bz)->bv (km×bz):=λ(O,ex,fr,_)=>(vT (O,())).bind λ(aY,_,_)=>(vV (aY,())).bind λ(fn,_,_)=>(tR (fn,ex,())).bind λ(fp,_,_)=>(Bf (fp,())).bind λ(h,_,_)=>(loop (σ:=(Z×km×bp hD×bz)) (ρ:=kW) (λ(b,y,s,_)=>bif bw (b<au h) then bE (α:=kW) (bE (α:=kW) (bE (α:=(bD×km×bp hD×bz)) (bB ((b==0)==bu) ((yc (fr,aD (900+b),())).bind λ(fl,_)=>(e8 bG fl 7).bind λf3=>(jH f3 3).bind λf4=>Y (bw (f4>0),y,s,())) (Y (bt,y,s,()))) λ(fs,z,t,_)=>bif fs then(c3 (z.length+([(b,(aT b,(([]:cR),((-1:Z),()))))]).length)).bind λ_=>(fR (au h) (au h)).bind λN=>(c3 (t.length+([bM N bu]).length)).bind λ_=>Y ((z++[(b,(aT b,(([]:cR),((-1:Z),()))))]),(t++[bM N bu]),()) else
 Y (z,t,())) λ(m,co,_)=>(bn m.length (aD (au m-1))).bind λG=>(be m G λB=>Y (m.set G (B.1,(aT b,B.2.2)))).bind λgs=>(loop (σ:=(Z×km×bp hD×bz)) (ρ:=kW) (λ(x,L,l,_)=>(az h b).bind λf5=>bB (bw (x<au f5)) ((bn l.length (aD (au m-1))).bind λw=>(az h b).bind λf6=>(az f6 x).bind λf7=>((be l w λT=>Y T).bind λU=>bn U.length f7).bind λH=>(be l w λC=>(be C H λ_=>Y (C.set H bt)).map λgt=>l.set w gt).bind λhc=>Y (.inl (aT x,L,hc,()))) (Y (.inr (L,l,())))) (0,gs,co,())).bind λ(ek,cs,_)=>Y (ek,cs,())) λ(el,cv,_)=>Y (.inl (aT b,el,cv,())) else Y (.inr (y,s,()))) (0,[],[],())).bind λ(em,c1,_)=>(loop (σ:=(Z×km×bp hD×bz)) (ρ:=(km×bz)) (λ(a,n,c2,_)=>bif bw (a<au n) then(bn n.length a).bind λd0=>
 (be n d0 λV=>Y V.1).bind λf8=>(loop (σ:=(Z×km×bp hD×bz)) (ρ:=kW) (λ(c,d,f,_)=>bif bw (c<au h) then bE (α:=kW) ((bn f.length a).bind λI=>((be f I λad=>Y ad).bind λam=>bn am.length c).bind λd1=>(be f I λan=>be an d1 λap=>Y ap).bind λf9=>bif !f9 then Y (d,f,()) else(bn d.length a).bind λJ=>(be d J λav=>Y av.2.2.1).bind λfT=>(c3 (fT.length+([c]).length)).bind λ_=>(bn d.length a).bind λp=>bif bL J p&&bt then(be d p λa0=>Y a0.2.2.1).bind λf0=>(be d p λr=>Y (d.set p (r.1,(r.2.1,((f0++[c]),r.2.2.2))))).bind λi=>bE (α:=kW) (bE (α:=(bD×km×bp hD×bz)) ((bn i.length a).bind λd2=>(be i d2 λa3=>Y a3.2.1).bind λgc=>bif bw (c>=gc)==bt then(bn i.length a).bind λd3=>(be i d3 λa4=>Y a4.2.2.2.1).bind λge=>
 Y (bw (ge<0),i,f,()) else Y (bu,i,f,())) λ(ft,M,D,_)=>bB ft ((loop (σ:=(Z×km×bp hD×bz)) (ρ:=kW) (λ(j,e,u,_)=>bB (bw (j<au e)) (bE (α:=kW) (bE (α:=(bD×km×bp hD×bz)) ((bn e.length j).bind λd4=>(be e d4 λbl=>Y bl.1).bind λgf=>bB (bw (c>=gf)==bt) ((bn e.length j).bind λd5=>(be e d5 λbs=>Y bs.2.1).bind λgi=>Y (bw (c<gi),e,u,())) (Y (bu,e,u,()))) λ(fz,q,E,_)=>bB fz ((bn q.length a).bind λK=>(be q K λo=>Y (q.set K (o.1,(o.2.1,(o.2.2.1,(j,o.2.2.2.2)))))).bind λhi=>Y (hi,E,())) (Y (q,E,()))) λ(eq,dg,_)=>Y (.inl (aT j,eq,dg,()))) (Y (.inr (e,u,())))) (aT a,M,D,())).bind λ(d6,bx,_)=>Y (d6,bx,())) (Y (M,D,()))) λ(g,k,_)=>(bn g.length a).bind λdl=>
 (be g dl λP=>Y P.2.1).bind λf1=>bB (bw (c>=f1)) ((bn g.length a).bind λds=>(be g ds λQ=>Y Q.2.2.2.1).bind λf2=>(bn k.length f2).bind λv=>((be k v λR=>Y R).bind λS=>bn S.length c).bind λF=>(be k v λA=>(be A F λ_=>Y (A.set F bt)).map λgl=>k.set v gl).bind λgo=>Y (g,go,())) (Y (g,k,())) else br) λ(d7,ce,_)=>Y (.inl (aT c,d7,ce,())) else Y (.inr (d,f,()))) (f8,n,c2,())).bind λ(d8,ci,_)=>Y (.inl (aT a,d8,ci,())) else Y (.inr (n,()))) (0,em,c1,())).bind λ(d9,_)=>Y (d9,())
def AV:o4->bv c7:=λ(b,e,_)=>(loop (σ:=c7) (ρ:=pT) (λ(a,_)=>bB (bw (a<au b)) ((az b a).bind λf=>bB (e==f) (Y (.inr (.inr (a,())))) (Y (.inl (aT a,())))) (Y (.inr (.inl ())))) (0,())).bind λc=>match c with
 |.inl _=>(Y ((-1:Z),()))
 |.inr d=>Y d
abbrev aU:Type:=amv
abbrev kF:Type:=(aU×bz)
abbrev eQ:Type:=(bD×kF)
abbrev eN:Type:=er
abbrev cY:Type:=(bD×(eQ×eN))
abbrev gU:Type:=(bp cY)
abbrev g3:Type:=(bp gU)
abbrev fA:Type:=(aU×(aU×(aU×(aU×(aU×(aU×eN))))))
abbrev vt:Type:=amr
abbrev dd:Type:=(aU×(Z×(vt×(g3×bz))))
abbrev oc:Type:=(Z×(Z×(gU×bz)))
abbrev r4:Type:=eo
abbrev kl:Type:=(Z×(Z×eN))
abbrev kV:Type:=ep
abbrev eV:Type:=(aU×kF)
abbrev vu:Type:=(Z×(Z×(aU×eN)))
abbrev z5:Type:=(eN⊕(bz⊕(eN⊕(bz⊕kV))))
abbrev mE:Type:=(Z×(Z×(aU×eV)))
abbrev Nr:Type:=(Z×fA×aU×fA×bz)
def Eo:(vu×bp (bv dd)×bz)->bv (aU×Z×bz):=λ(a,j,_)=>(loop (σ:=(Z×aU×bz)) (ρ:=kF) (λ(h,m,_)=>bB (bw (h<au j)) ((az j h).bind λi=>i.bind λt=>(loop (σ:=(Z×aU×bz)) (ρ:=kF) (λ(e,d,_)=>bB (bw (e<t.2.1)) (bE (α:=kF) (i.bind λu=>(az u.2.2.1 e).bind λr=>bB r (i.bind λs=>(az s.1 e).bind λn=>(c3 (d.length+([n]).length)).bind λ_=>Y ((d++[n]),())) (Y (d,()))) λ(o,_)=>Y (.inl (aT e,o,()))) (Y (.inr (d,())))) (0,m,())).bind λ(p,_)=>Y (.inl (aT h,p,()))) (Y (.inr (m,())))) (0,[],())).bind λ(q,_)=>(loop (σ:=(Z×aU×bz)) (ρ:=kF) (λ(b,f,_)=>bB (bw (b<a.2.1)) ((c3 (f.length+([b]).length)).bind λ_=>Y (.inl (aT b,(f++[b]),()))) (Y (.inr (f,())))) (a.1,q,())).bind λ(g,_)=>
 ((hS (aD (a.2.1-a.1))).bind λk=>(Y ((a.2.2.1).length)).bind λl=>(iA k l (a.2.2.1).length).map λ_=>(k,l)).bind λc=>(c3 (g.length+(((a.2.2.1).take c.2).drop c.1).length)).bind λ_=>Y ((g++(((a.2.2.1).take c.2).drop c.1)),au g,())
def Eh:(dd×bv dd×bz)->bv (dd×bz):=λ(H,c,_)=>c.bind λr=>(fR (au r.1) (au r.1)).bind λD=>c.bind λs=>(loop (σ:=(Z×dd×aU×bz)) (ρ:=(dd×aU×bz)) (λ(f,g,i,_)=>bB (bw (f<au s.1)) (bE (α:=(dd×aU×bz)) ((az s.1 f).bind λa0=>c.bind λN=>(az N.2.2.1 f).bind λO=>bB O ((AV (g.1,a0,())).bind λ(E,_)=>wr i f E λa3=>Y (g,a3,())) (Y (g,i,()))) λ(I,t,_)=>Y (.inl (aT f,I,t,()))) (Y (.inr (g,i,())))) (0,H,bM D (0:Z),())).bind λ(J,l,_)=>(loop (σ:=(Z×dd×aU×bz)) (ρ:=(dd×bz)) (λ(d,q,m,_)=>bif bw (d<au l) then(loop (σ:=(Z×dd×aU×bz)) (ρ:=(dd×aU×bz)) (λ(e,k,h,_)=>bif bw (e<au m) then bE (α:=(dd×aU×bz)) (bE (α:=(bD×dd×aU×bz)) (c.bind λP=>(az P.2.2.1 d).bind λQ=>bif Q==bt then c.bind λR=>
 (az R.2.2.1 e).bind λS=>Y (S,k,h,()) else Y (bu,k,h,())) λ(G,a,b,_)=>bB G (rd b d λT=>(bn (a.2.2.2.1).length T).bind λj=>rd b e λU=>rd b d λV=>(bn (a.2.2.2.1).length V).bind λo=>rd b e λad=>((be a.2.2.2.1 o λw=>Y w).bind λx=>bn x.length ad).bind λC=>(be a.2.2.2.1 o λy=>be y C λz=>Y z).bind λam=>c.bind λan=>(az an.2.2.2.1 d).bind λap=>(az ap e).bind λav=>(At (am,av,())).bind λ(F,_)=>((be a.2.2.2.1 j λA=>Y A).bind λB=>bn B.length U).bind λp=>(((((be a.2.2.2.1 j λn=>(be n p λ_=>Y (n.set p F)).map λa4=>(a.2.2.2.1).set j a4).map λbl=>(bl,a.2.2.2.2)).map λbs=>(a.2.2.1,bs)).map λbx=>(a.2.1,bx)).map λce=>(a.1,ce)).bind λci=>Y (ci,b,())) (Y (a,b,()))) λ(K,u,_)=>Y (.inl (aT e,K,u,())) else
 Y (.inr (k,h,()))) (0,q,m,())).bind λ(L,v,_)=>Y (.inl (aT d,L,v,())) else Y (.inr (q,()))) (0,J,l,())).bind λ(M,_)=>Y (M,())
def Ef:(bv (Z×((bp aU×bz)×(bp (bv (bp (Z×cY)×X))×bz)))×vu×bp (bv dd)×bz)->bv (dd×Z×bz):=λ(w,k,j,_)=>(Eo (k,j,())).bind λ(aY,B,_)=>(bif bw (au aY>64) then br else(fR (au aY) (au aY)).bind λy=>(fR (au aY) (au aY)).bind λz=>(loop (σ:=(Z×dd×bz)) (ρ:=(dd×bz)) (λ(g,b,_)=>bB (bw (g<au aY)) ((fR (au aY) (au aY)).bind λx=>(bn (b.2.2.1).length g).bind λo=>((((be b.2.2.1 o λ_=>Y ((b.2.2.1).set o bt)).map λL=>(L,b.2.2.2)).map λM=>(b.2.1,M)).map λN=>(b.1,N)).bind λc=>(bn (c.2.2.2.1).length g).bind λp=>(((((be c.2.2.2.1 p λ_=>Y ((c.2.2.2.1).set p (bM x (bu,((bu,(([]:amv),())),((0:Z),())))))).map λO=>(O,c.2.2.2.2)).map λP=>(c.2.2.1,P)).map λQ=>(c.2.1,Q)).map λR=>(c.1,R)).bind λS=>Y (.inl (aT g,S,()))) (Y (.inr (b,())))) (0,(aY,(B,(bM y bu,(bM z [],())))),())).bind λ(D,_)=>
 (loop (σ:=(Z×dd×bz)) (ρ:=(dd×bz)) (λ(d,r,_)=>bif bw (d<au aY) then(loop (σ:=(Z×dd×bz)) (ρ:=(dd×bz)) (λ(e,f,_)=>bif bw (e<au aY) then bE (α:=(dd×bz)) (rd f.1 d λh=>rd f.1 e λi=>bE (α:=(bD×dd×bz)) (bB (bw ((if i<h then i else h)>=k.1)==bt) (Y (bw ((if i<h then i else h)<k.2.1),f,())) (Y (bu,f,()))) λ(C,a,_)=>bB C ((bn (a.2.2.2.1).length d).bind λl=>rd a.1 d λI=>rd a.1 e λJ=>(vX (w,I,J,())).bind λ(A,_)=>((be a.2.2.2.1 l λt=>Y t).bind λu=>bn u.length e).bind λq=>(((((be a.2.2.2.1 l λn=>(be n q λ_=>Y (n.set q A)).map λT=>(a.2.2.2.1).set l T).map λU=>(U,a.2.2.2.2)).map λV=>(a.2.2.1,V)).map λad=>(a.2.1,ad)).map λam=>(a.1,am)).bind λan=>Y (an,())) (Y (a,()))) λ(E,_)=>Y (.inl (aT e,E,())) else
 Y (.inr (f,()))) (0,r,())).bind λ(F,_)=>Y (.inl (aT d,F,())) else Y (.inr (r,()))) (0,D,())).bind λ(G,_)=>(loop (σ:=(Z×dd×bz)) (ρ:=(dd×bz)) (λ(m,s,_)=>bB (bw (m<au j)) ((az j m).bind λK=>(Eh (s,K,())).bind λ(v,_)=>Y (.inl (aT m,v,()))) (Y (.inr (s,())))) (0,G,())).bind λ(H,_)=>Y (H,0,()))
def IR:(cY×bz)->bv ((bD×(eQ×(Z×kV)))×bz):=λ(a,_)=>(tK (a.2.1,())).bind λ(b,_)=>Y ((a.2.1.1,(b,(a.2.2.1,(bu,())))),())
def DU:(cY×Z×bz)->bv eN:=λ(b,c,_)=>(tH (b,())).bind λ(a,_)=>(bB a.1 (Y (9221120237041090560,())) ((o8 (a,())).bind λ(aY,_)=>bB (aY==0) (Y (0,())) ((IR (a,())).bind λ(d,_)=>(Az (d,c,())).bind λ(e,_)=>Y (e,()))))
def tO:(bv dd×Z×Z×bz)->bv eN:=λ(d,a,b,_)=>d.bind λe=>(az e.2.2.2.1 a).bind λf=>(az f b).bind λg=>(DU (g,0,())).bind λ(c,_)=>Y (c,())
def DV:kF->bv kV:=λ(b,_)=>(loop (σ:=eN) (ρ:=(bz⊕kV)) (λ(a,_)=>bB (bw (a<au b)) ((az b a).bind λe=>(Ay (e,())).bind λ(aY,_)=>bB (aY==3) (Y (.inr (.inr (bt,())))) (Y (.inl (aT a,())))) (Y (.inr (.inl ())))) (0,())).bind λc=>match c with
 |.inl _=>(Y (bu,()))
 |.inr d=>Y d
def xU:eN->bv eN:=λ(a,_)=>(DV ([a],())).bind λ(b,_)=>(bB b (Y (9221120237041090560,())) (Y (Dj bG a 9223372036854775808,())))
def AR:(bv dd×Z×bz)->bv (cY×Z×Z×bz):=λ(h,i,_)=>(pZ (0,())).bind λ(t,_)=>h.bind λz=>(loop (σ:=(Z×Z×cY×cY×bz)) (ρ:=((Z×cY×cY×bz)⊕(cY×Z×Z×bz))) (λ(b,c,d,a,_)=>bif bw (c<au z.1) then(bE (α:=(Z×cY×cY×bz)⊕((Z×Z×cY×cY×bz)⊕((Z×cY×cY×bz)⊕(cY×Z×Z×bz)))) (h.bind λA=>(az A.2.2.1 c).bind λy=>bif !y then Y (.inl (b,d,a,())) else(tO (h,c,i,())).bind λ(g,_)=>(pa (g,())).bind λ(n,_)=>bif !n then Y (.inr (.inr (.inr (a,b,233,())))) else bif c==i then Y (.inl (b,d,a,())) else(xU (g,())).bind λ(o,_)=>(kb (o,())).bind λ(p,_)=>(xS (p,a,())).bind λ(q,_,_)=>bE (α:=(bD×cY×cY×bz)) (bB (bw (q>0)==bu) (Y (bw (b<0),d,a,())) (Y (bt,d,a,()))) λ(w,j,k,_)=>
 bB w ((xU (g,())).bind λ(r,_)=>(kb (r,())).bind λ(s,_)=>Y (.inl (c,j,s,()))) (Y (.inl (b,j,k,())))) λe=>match e with
 |.inl (u,x,l,_)=>(Y (.inl (u,aT c,x,l,())))
 |.inr f=>Y f) else Y (.inr (.inl (b,d,a,())))) ((-1:Z),0,(bu,((bu,(([]:amv),())),((0:Z),()))),t,())).bind λe=>match e with
 |.inl (v,_,m,_)=>(Y (m,v,0,()))
 |.inr f=>Y f
def AO:(bv dd×Z×bz)->bv (cY×bz):=λ(d,a,_)=>(tO (d,a,a,())).bind λ(b,_)=>(xU (b,())).bind λ(aY,_)=>(kb (aY,())).bind λ(c,_)=>Y (c,())
def x3:(cY×cY×bz)->bv kV:=λ(a,b,_)=>(pZ (64,())).bind λ(c,_)=>(nc (c,a,())).bind λ(aY,_)=>(pZ (41,())).bind λ(d,_)=>(nc (d,b,())).bind λ(e,_)=>(xS (aY,e,())).bind λ(f,_,_)=>Y (bw (f>=0),())
def Ei:(bv dd×bz)->bv (aU×Z×bz):=λ(b,_)=>b.bind λw=>(loop (σ:=eN) (ρ:=(bz⊕(aU×Z×bz))) (λ(a,_)=>bif bw (a<w.2.1) then(bE (α:=bz⊕(eN⊕(bz⊕(aU×Z×bz)))) (b.bind λx=>(az x.2.2.1 a).bind λy=>bif !y then Y (.inl ()) else(AR (b,a,())).bind λ(f,e,i,_)=>bif i !=0 then Y (.inr (.inr (.inr ([],i,())))) else((AO (b,a,())).bind λ(g,_)=>bE (α:=(cY×cY×bz)⊕(bz⊕(eN⊕(bz⊕(aU×Z×bz))))) (bE (α:=(bD×cY×cY×bz)) ((o8 (f,())).bind λ(o,_)=>bB ((o==0)==bu) ((x3 (g,f,())).bind λ(p,_)=>Y (p,f,g,())) (Y (bt,f,g,()))) λ(v,l,m,_)=>bB v (Y (.inr (.inr (.inr (.inr ([a],0,())))))) (Y (.inl (l,m,())))) λc=>match c with
 |.inl (h,n,_)=>(b.bind λz=>bB (bw (e>=z.2.1)) (Y (.inl ())) ((AR (b,e,())).bind λ(j,_,k,_)=>bB (k !=0) (Y (.inr (.inr (.inr ([],k,()))))) ((nc (n,j,())).bind λ(q,_)=>(nc (h,h,())).bind λ(r,_)=>(x3 (q,r,())).bind λ(s,_)=>bB s (Y (.inr (.inr (.inr ([a],0,()))))) ((AO (b,e,())).bind λ(t,_)=>(x3 (t,j,())).bind λ(u,_)=>bB u (Y (.inr (.inr (.inr ([e],0,()))))) (Y (.inr (.inr (.inr ([a,e],0,())))))))))
 |.inr d=>Y d)) λc=>match c with
 |.inl _=>(Y (.inl (aT a,())))
 |.inr d=>Y d) else Y (.inr (.inl ()))) (0,())).bind λc=>match c with
 |.inl _=>(Y ([],0,()))
 |.inr d=>Y d
def AS:(bv dd×bz)->bv kF:=λ(c,_)=>c.bind λf=>(loop (σ:=(Z×aU×bz)) (ρ:=kF) (λ(a,b,_)=>bB (bw (a<au f.1)) (bE (α:=kF) (c.bind λg=>(az g.2.2.1 a).bind λh=>bB h ((c3 (b.length+([a]).length)).bind λ_=>Y ((b++[a]),())) (Y (b,()))) λ(d,_)=>Y (.inl (aT a,d,()))) (Y (.inr (b,())))) (0,[],())).bind λ(e,_)=>Y (e,())
def p1:(gU×cY×bz)->bv (gU×bz):=λ(c,e,_)=>(loop (σ:=(Z×gU×bz)) (ρ:=(gU×bz)) (λ(b,a,_)=>bB (bw (b<au c)) ((az c b).bind λg=>(nc (g,e,())).bind λ(d,_)=>(c3 (a.length+([d]).length)).bind λ_=>Y (.inl (aT b,(a++[d]),()))) (Y (.inr (a,())))) (0,[],())).bind λ(f,_)=>Y (f,())
def q0:(dd×aU×gU×gU×bz)->bv (dd×bz):=λ(w,b,u,v,_)=>(loop (σ:=(Z×dd×bz)) (ρ:=(dd×bz)) (λ(c,i,_)=>bif bw (c<au b) then(az b c).bind λk=>(loop (σ:=(Z×dd×bz)) (ρ:=(dd×bz)) (λ(d,a,_)=>bif bw (d<au b) then(az b d).bind λj=>(bn (a.2.2.2.1).length k).bind λe=>(bn (a.2.2.2.1).length k).bind λg=>((be a.2.2.2.1 g λl=>Y l).bind λm=>bn m.length j).bind λr=>(be a.2.2.2.1 g λn=>be n r λo=>Y o).bind λz=>(az u c).bind λA=>(az v d).bind λB=>(nc (A,B,())).bind λ(s,_)=>(tI (z,s,())).bind λ(t,_)=>((be a.2.2.2.1 e λp=>Y p).bind λq=>bn q.length j).bind λh=>(((((be a.2.2.2.1 e λf=>(be f h λ_=>Y (f.set h t)).map λC=>(a.2.2.2.1).set e C).map λD=>(D,a.2.2.2.2)).map λE=>(a.2.2.1,E)).map λF=>(a.2.1,F)).map λG=>(a.1,G)).bind λH=>
 Y (.inl (aT d,H,())) else Y (.inr (a,()))) (0,i,())).bind λ(x,_)=>Y (.inl (aT c,x,())) else Y (.inr (i,()))) (0,w,())).bind λ(y,_)=>Y (y,())
def En:eN->bv (cY×bz):=λ(_,_)=>(pZ (0,())).bind λ(a,_)=>Y (a,())
def IW:(bv dd×aU×bz×cY×bz)->bv (eV×gU×Z×bz):=λ(q,e,_,p,_)=>(loop (σ:=(Z×eV×eV×gU×bz)) (ρ:=((eV×eV×gU×bz)⊕(eV×gU×Z×bz))) (λ(d,g,a,c,_)=>bB (bw (d<au e)) ((az e d).bind λh=>(En (h,())).bind λ(n,_)=>(tJ (n,p,0,())).bind λ(b,_)=>(pa (b,())).bind λ(o,_)=>bB (!o) (Y (.inr (.inr (a,[],233,())))) (q.bind λr=>(az r.1 h).bind λi=>(c3 ((a.1).length+([i]).length)).bind λ_=>(c3 ((a.2.1).length+([b]).length)).bind λ_=>(kb (b,())).bind λ(f,_)=>(c3 (c.length+([f]).length)).bind λ_=>Y (.inl (aT d,g,((a.1++[i]),((a.2.1++[b]),a.2.2)),(c++[f]),())))) (Y (.inr (.inl (g,a,c,()))))) (0,([],([],())),([],([],())),[],())).bind λl=>match l with
 |.inl (_,j,k,_)=>(Y (j,k,0,()))
 |.inr m=>Y m
def Em:(Z×bv (bv dd)×amp×bz)->bv (cY×bz):=λ(a,b,c,_)=>b.bind λd=>d.bind λe=>(az e.2.2.2.1 a).bind λf=>c.bind λg=>(az f g).bind λh=>Y (h,())
def IX:(bv dd×aU×(bv (bv dd)×amp×bz)×cY×bz)->bv (eV×gU×Z×bz):=λ(r,e,f,q,_)=>(loop (σ:=(Z×eV×eV×gU×bz)) (ρ:=((eV×eV×gU×bz)⊕(eV×gU×Z×bz))) (λ(d,h,a,c,_)=>bB (bw (d<au e)) ((az e d).bind λi=>(Em (i,f.1,f.2.1,())).bind λ(o,_)=>(tJ (o,q,0,())).bind λ(b,_)=>(pa (b,())).bind λ(p,_)=>bB (!p) (Y (.inr (.inr (a,[],233,())))) (r.bind λs=>(az s.1 i).bind λj=>(c3 ((a.1).length+([j]).length)).bind λ_=>(c3 ((a.2.1).length+([b]).length)).bind λ_=>(kb (b,())).bind λ(g,_)=>(c3 (c.length+([g]).length)).bind λ_=>Y (.inl (aT d,h,((a.1++[j]),((a.2.1++[b]),a.2.2)),(c++[g]),())))) (Y (.inr (.inl (h,a,c,()))))) (0,([],([],())),([],([],())),[],())).bind λm=>match m with
 |.inl (_,k,l,_)=>(Y (k,l,0,()))
 |.inr n=>Y n
def vP:(gU×bz)->bv (cY×bz):=λ(a,_)=>(az a 0).bind λd=>(az a 2).bind λe=>(nc (d,e,())).bind λ(aY,_)=>(az a 1).bind λf=>(az a 1).bind λg=>(nc (f,g,())).bind λ(b,_)=>(tI (aY,b,())).bind λ(c,_)=>Y (c,())
def vQ:(Z×Z×bv aU×bv eV×bz)->bv eN:=λ(c,d,a,b,_)=>a.bind λi=>b.bind λj=>(az j.1 c).bind λk=>(az i k).bind λl=>a.bind λm=>b.bind λf=>(az f.1 d).bind λg=>(az m g).bind λh=>(vJ (l,h,())).bind λ(e,_)=>Y (e,())
def Jb:(aU×Z×Z×(bv aU×bv eV×bz)×bz)->bv kF:=λ(i,e,h,f,_)=>(loop (σ:=(Z×aU×bz)) (ρ:=kF) (λ(d,g,_)=>bif bw (d<h) then(loop (σ:=(Z×aU×bz)) (ρ:=kF) (λ(a,b,_)=>bE (α:=kF⊕((Z×aU×bz)⊕kF)) (bB (bw (a>e)==bt) (rd b a λo=>rd b (aD (a-1)) λp=>(vQ (o,p,f.1,f.2.1,())).bind λ(n,_)=>bB (bw (n<0)) (Y (.inl (b,()))) (Y (.inr (.inr (b,()))))) (Y (.inr (.inr (b,()))))) λl=>match l with
 |.inl (c,_)=>(rd c (aD (a-1)) λq=>rd c a λr=>wr c a q λs=>wr s (aD (a-1)) r λt=>Y (.inl (aD (a-1),t,())))
 |.inr m=>Y m) (d,g,())).bind λ(j,_)=>Y (.inl (aT d,j,())) else Y (.inr (g,()))) (aT e,i,())).bind λ(k,_)=>Y (k,())
def EO:(aU×Z×Z×Z×(bv aU×bv eV×bz)×bz)->bv kF:=λ(f,d,e,h,c,_)=>(loop (σ:=(Z×Z×Z×bD×bD×aU×bz)) (ρ:=kF) (λ(a,b,_,_,_,g,_)=>bB (bw (aD (b-a)<=12)) ((Jb (g,a,b,(c.1,c.2.1,()),())).bind λ(i,_)=>Y (.inr (i,()))) br) (d,e,h,bt,bt,f,())).bind Y
def EL:(aU×(bv aU×bv eV×bz)×bz)->bv kF:=λ(a,b,_)=>(Eu (aS (au a),())).bind λ(d,_)=>(EO (a,0,au a,d,(b.1,b.2.1,()),())).bind λ(c,_)=>Y (c,())
def Er:(bv (bv (Z×((bp aU×bz)×(bp (bv (bp (Z×cY)×X))×bz)))×(aU×(aU×(aU×(bp eV×eN)))))×aU×bz)->bv (fA×bz):=λ(c,i,_)=>(fR (au i) (au i)).bind λP=>c.bind λT=>c.bind λU=>c.bind λad=>c.bind λH=>(loop (σ:=Nr) (ρ:=(fA×aU×fA×bz)) (λ(f,A,s,d,_)=>bB (bw (f<au H.2.1)) ((az H.2.1 f).bind λB=>wr s B f λam=>(az i B).bind λC=>(c3 ((d.1).length+([C]).length)).bind λ_=>Y (.inl (aT f,A,am,((d.1++[C]),d.2),()))) (Y (.inr (A,s,d,())))) (0,([],([],([],([],([],([],((0:Z),()))))))),bM P (0:Z),(([]:aU),(T.2.2.1,(U.2.2.2.1,([0],(([]:aU),(([]:aU),(ad.2.2.2.2.2.1,()))))))),())).bind λ(Q,M,J,_)=>c.bind λD=>(loop (σ:=Nr) (ρ:=(fA×fA×bz)) (λ(j,x,N,q,_)=>bif bw (j<au D.2.2.2.2.1) then(az D.2.2.2.2.1 j).bind λl=>(fR (au l.1) (au l.1)).bind λw=>
 (loop (σ:=(Z×fA×aU×fA×eV×aU×bz)) (ρ:=(fA×aU×fA×eV×aU×bz)) (λ(e,y,t,r,o,m,_)=>bB (bw (e<au (bM w (0:Z)))) (wr m e e λan=>Y (.inl (aT e,y,t,r,o,an,()))) (Y (.inr (y,t,r,o,m,())))) (0,x,N,q,l,bM w (0:Z),())).bind λ(R,u,K,p,I,_)=>(EL (I,(Y u,Y p,()),())).bind λ(v,_)=>(loop (σ:=(Z×fA×aU×fA×eV×aU×bz)) (ρ:=(fA×aU×fA×bz)) (λ(k,z,h,a,g,n,_)=>bif bw (k<au v) then rd n k λE=>(az g.1 E).bind λV=>rd h V λF=>(c3 ((a.2.2.2.2.1).length+([F]).length)).bind λ_=>(az g.2.1 E).bind λG=>(c3 ((a.2.2.2.2.2.1).length+([G]).length)).bind λ_=>Y (.inl (aT k,z,h,(a.1,(a.2.1,(a.2.2.1,(a.2.2.2.1,((a.2.2.2.2.1++[F]),((a.2.2.2.2.2.1++[G]),a.2.2.2.2.2.2)))))),g,n,())) else
 Y (.inr (z,h,a,()))) (0,R,u,K,p,v,())).bind λ(S,O,b,_)=>(c3 ((b.2.2.2.1).length+([au b.2.2.2.2.1]).length)).bind λ_=>Y (.inl (aT j,S,O,(b.1,(b.2.1,(b.2.2.1,((b.2.2.2.1++[au b.2.2.2.2.1]),b.2.2.2.2)))),())) else Y (.inr (x,q,()))) (0,Q,M,J,())).bind λ(_,L,_)=>Y (L,())
def Ec:(vu×bz)->bv kV:=λ(a,_)=>Y (bw (au a.2.2.1>64),())
def EI:(bp vu×bz×bz)->bv eN:=λ(b,_,_)=>(loop (σ:=eN) (ρ:=(bz⊕eN)) (λ(a,_)=>bB (bw (a<au b)) ((az b a).bind λf=>(Ec (f,())).bind λ(e,_)=>bB e (Y (.inr (.inr (a,())))) (Y (.inl (aT a,())))) (Y (.inr (.inl ())))) (0,())).bind λc=>match c with
 |.inl _=>(Y ((-1:Z),()))
 |.inr d=>Y d
def EF:(bp vu×bz×bz)->bv kV:=λ(b,_,_)=>(EI (b,(),())).bind λ(a,_)=>Y (bw (a>=0),())
def Jl:kF->bv (cY×bz):=λ(a,_)=>(az a 0).bind λd=>(az a 2).bind λe=>(Ff (d,e,())).bind λ(aY,_)=>(az a 1).bind λf=>(az a 1).bind λg=>(Ff (f,g,())).bind λ(b,_)=>(Jk (aY,b,())).bind λ(c,_)=>Y (c,())
def I1:kF->bv kV:=λ(a,_)=>(fR (au a) (au a)).bind λg=>(loop (σ:=(Z×vt×bz)) (ρ:=(bz⊕kV)) (λ(e,f,_)=>bif bw (e<au a) then(bE (α:=(vt×bz)⊕((Z×vt×bz)⊕(bz⊕kV))) ((az a e).bind λd=>bE (α:=(vt×bz)⊕((vt×bz)⊕((Z×vt×bz)⊕(bz⊕kV)))) (bB (bw (d<0)==bu) (bB (bw (d>=au a)==bu) (rd f d λj=>bB j (Y (.inr (.inr (.inr (.inr (bu,())))))) (Y (.inl (f,())))) (Y (.inr (.inr (.inr (.inr (bu,()))))))) (Y (.inr (.inr (.inr (.inr (bu,()))))))) λb=>match b with
 |.inl (i,_)=>(wr i d bt λk=>Y (.inl (k,())))
 |.inr c=>Y c) λb=>match b with
 |.inl (h,_)=>(Y (.inl (aT e,h,())))
 |.inr c=>Y c) else Y (.inr (.inl ()))) (0,bM g bu,())).bind λb=>match b with
 |.inl _=>(Y (bt,()))
 |.inr c=>Y c
def AT:(fA×bz)->bv (aU×bD×bz):=λ(b,_)=>(loop (σ:=(Z×Z×Z×aU×bz)) (ρ:=((Z×Z×aU×bz)⊕(aU×bD×bz))) (λ(a,h,g,e,_)=>bif bw (g<au b.2.1) then(bE (α:=(Z×Z×aU×bz)⊕((Z×Z×Z×aU×bz)⊕((Z×Z×aU×bz)⊕(aU×bD×bz)))) ((az b.2.1 g).bind λf=>bE (α:=kF⊕((Z×Z×aU×bz)⊕((Z×Z×Z×aU×bz)⊕((Z×Z×aU×bz)⊕(aU×bD×bz))))) (bE (α:=(bD×aU×bz)) (bB ((f !=1)==bt) (bB ((f !=2)==bu) (Y (bw (a>=au b.1),e,())) (Y (bt,e,()))) (Y (bw (a>=au b.1),e,()))) λ(q,o,_)=>bB q (Y (.inr (.inr (.inr (.inr ([],bu,())))))) (Y (.inl (o,())))) λc=>match c with
 |.inl (i,_)=>((c3 (i.length+([a]).length)).bind λ_=>Y (.inl (aD (a+f),aD (h+aD (aD (2*f)-1)),(i++[a]),())))
 |.inr d=>Y d) λc=>match c with
 |.inl (k,m,p,_)=>(Y (.inl (k,m,aT g,p,())))
 |.inr d=>Y d) else Y (.inr (.inl (a,h,e,())))) (0,0,0,[],())).bind λc=>match c with
 |.inl (l,n,j,_)=>(bB ((l==au b.1)==bt) (Y (j,(n==au b.2.2.1),())) (Y (j,bu,())))
 |.inr d=>Y d
def Eg:(fA×aU×bz)->bv kV:=λ(a,i,_)=>bE (α:=bz⊕kV) ((az a.2.2.2.1 0).bind λs=>bB ((s !=0)==bu) ((az a.2.2.2.1 (au a.1)).bind λt=>bB (t !=au a.2.2.2.2.1) (Y (.inr (bu,()))) (Y (.inl ()))) (Y (.inr (bu,())))) λb=>match b with
 |.inl _=>((loop (σ:=eN) (ρ:=(bz⊕kV)) (λ(e,_)=>bif bw (e<au i) then((az i e).bind λh=>(az a.2.1 e).bind λl=>(loop (σ:=eN) (ρ:=(bz⊕(eN⊕(bz⊕kV)))) (λ(d,_)=>bif bw (d<=aD (aD (h+l)-1)) then(bE (α:=bz⊕z5) (bE (α:=bz⊕(bz⊕z5)) ((az a.2.2.2.1 d).bind λu=>(az a.2.2.2.1 (aT d)).bind λo=>bB (bw (u>o)==bu) ((az a.2.2.2.1 (aT d)).bind λp=>bB (bw (p>au a.2.2.2.2.1)) (Y (.inr (.inr (.inr (.inr (.inr (.inr (bu,())))))))) (Y (.inl ()))) (Y (.inr (.inr (.inr (.inr (.inr (.inr (bu,()))))))))) λb=>match b with
 |.inl _=>((az a.2.2.2.1 d).bind λq=>(az a.2.2.2.1 (aT d)).bind λr=>((hS q).bind λj=>(hS r).bind λk=>(iA j k (a.2.2.2.2.1).length).map λ_=>(j,k)).bind λy9=>(loop (σ:=r4) (ρ:=(bz⊕(bz⊕z5))) (λ(m,f,_)=>bif bw (f<au (((a.2.2.2.2.1).take y9.2).drop y9.1)) then(bE (α:=eN⊕(r4⊕(bz⊕(bz⊕z5)))) ((az (((a.2.2.2.2.1).take y9.2).drop y9.1) f).bind λg=>bE (α:=bz⊕(eN⊕(r4⊕(bz⊕(bz⊕z5))))) (bB (bw (g<=m)==bu) (bB (bw (g>=au a.1)) (Y (.inr (.inr (.inr (.inr (.inr (.inr (.inr (.inr (.inr (bu,()))))))))))) (Y (.inl ()))) (Y (.inr (.inr (.inr (.inr (.inr (.inr (.inr (.inr (.inr (bu,())))))))))))) λb=>match b with
 |.inl _=>(Y (.inl (g,())))
 |.inr c=>Y c) λb=>match b with
 |.inl (n,_)=>(Y (.inl (n,aT f,())))
 |.inr c=>Y c) else Y (.inr (.inl ()))) (aD (aD (h+l)-1),0,())).bind λb=>match b with
 |.inl _=>(Y (.inl ()))
 |.inr c=>Y c)
 |.inr c=>Y c) λb=>match b with
 |.inl _=>(Y (.inl (aT d,())))
 |.inr c=>Y c) else Y (.inr (.inl ()))) (h,())).bind λb=>match b with
 |.inl _=>(Y (.inl (aT e,())))
 |.inr c=>Y c) else Y (.inr (.inl ()))) (0,())).bind λb=>match b with
 |.inl _=>(Y (bt,()))
 |.inr c=>Y c)
 |.inr c=>Y c
def x2:(fA×bz)->bv (g3×bz):=λ(c,_)=>(loop (σ:=(Z×Z×g3×bz)) (ρ:=(g3×bz)) (λ(k,d,f,_)=>bB (bw (d<au c.2.1)) ((az c.2.1 d).bind λn=>(loop (σ:=(Z×Z×g3×gU×bz)) (ρ:=(Z×g3×gU×bz)) (λ(a,j,g,b,_)=>bB (bw (j<aD (aD (2*n)-1))) ((az c.2.2.1 a).bind λo=>(kb (o,())).bind λ(i,_)=>(c3 (b.length+([i]).length)).bind λ_=>Y (.inl (aT a,aT j,g,(b++[i]),()))) (Y (.inr (a,g,b,())))) (k,0,f,[],())).bind λ(l,h,e,_)=>(c3 (h.length+([e]).length)).bind λ_=>Y (.inl (l,aT d,(h++[e]),()))) (Y (.inr (f,())))) (0,0,[],())).bind λ(m,_)=>Y (m,())
def vO:(fA×bz)->bv eN:=λ(a,_)=>bE (α:=bz⊕eN) (bB (bw (au a.1>200)) (Y (.inr (6,()))) ((I1 (a.1,())).bind λ(n,_)=>bB (!n) (Y (.inr (90,()))) (bB ((au a.2.2.2.1 !=aT (au a.1))==bu) (bB (au a.2.2.2.2.1 !=au a.2.2.2.2.2.1) (Y (.inr (2,()))) (Y (.inl ()))) (Y (.inr (2,())))))) λb=>match b with
 |.inl _=>((AT (a,())).bind λ(q,aY,_)=>bE (α:=bz⊕eN) (bB ((!aY)==bu) (bB (bw (a.2.2.2.2.2.2.1<0)==bu) ((Eg (a,q,())).bind λ(r,_)=>bB (!r) (Y (.inr (240,()))) (Y (.inl ()))) (Y (.inr (240,())))) (Y (.inr (240,())))) λb=>match b with
 |.inl _=>((loop (σ:=(Z×bp aU×bz)) (ρ:=(bz⊕eN)) (λ(g,j,_)=>bif bw (g<au ([a.2.2.2.2.2.1,a.2.2.1])) then(rd j g λk=>(loop (σ:=(Z×bp aU×bz)) (ρ:=((bp aU×bz)⊕((Z×bp aU×bz)⊕(bz⊕eN)))) (λ(d,i,_)=>bB (bw (d<au k)) ((az k d).bind λu=>(pa (u,())).bind λ(m,_)=>bB (!m) (Y (.inr (.inr (.inr (.inr (4,())))))) (Y (.inl (aT d,i,())))) (Y (.inr (.inl (i,()))))) (0,j,())).bind λb=>match b with
 |.inl (s,_)=>(Y (.inl (aT g,s,())))
 |.inr c=>Y c) else Y (.inr (.inl ()))) (0,[a.2.2.2.2.2.1,a.2.2.1],())).bind λb=>match b with
 |.inl _=>((x2 (a,())).bind λ(h,_)=>(loop (σ:=(Z×g3×bz)) (ρ:=(bz⊕eN)) (λ(e,f,_)=>bif bw (e<au h) then(bE (α:=(g3×bz)⊕((Z×g3×bz)⊕(bz⊕eN))) (rd f e λl=>bB ((au l==3)==bt) ((vP (l,())).bind λ(o,_)=>(o8 (o,())).bind λ(p,_)=>bB (p==0) (Y (.inr (.inr (.inr (4,()))))) (Y (.inl (f,())))) (Y (.inl (f,())))) λb=>match b with
 |.inl (t,_)=>(Y (.inl (aT e,t,())))
 |.inr c=>Y c) else Y (.inr (.inl ()))) (0,h,())).bind λb=>match b with
 |.inl _=>(Y (0,()))
 |.inr c=>Y c)
 |.inr c=>Y c)
 |.inr c=>Y c)
 |.inr c=>Y c
def Ee:(fA×bz)->bv (kl×Z×bz):=λ(j,_)=>(vO (j,())).bind λ(l,_)=>(bif l !=0 then Y (((0:Z),((0:Z),((0:Z),()))),l,()) else(x2 (j,())).bind λ(m,_)=>(loop (σ:=(Z×kl×kl×g3×bz)) (ρ:=(kl×kl×bz)) (λ(h,c,b,d,_)=>bif bw (h<au m) then bE (α:=(kl×kl×g3×bz)) (rd d h λi=>(az i 0).bind λv=>(o8 (v,())).bind λ(k,_)=>bE (α:=(Z×kl×kl×g3×bz)⊕(kl×kl×g3×bz)) (bB (au i==3) ((vP (i,())).bind λ(r,_)=>(o8 (r,())).bind λ(s,_)=>bB (bw (s<0)) (Y (.inr (c,(aT b.1,(b.2.1,(aD (b.2.2.1+1),b.2.2.2))),d,()))) (Y (.inl (2,c,b,d,())))) (Y (.inl (1,c,b,d,())))) λp=>match p with
 |.inl (e,f,a,g,_)=>(bB (bw (k<0)) (Y (f,(aD (a.1+e),a.2),g,())) (bB (bw (k>0)) (Y (f,(a.1,(a.2.1,(aD (a.2.2.1+e),a.2.2.2))),g,())) (Y (f,(a.1,(aD (a.2.1+e),a.2.2)),g,()))))
 |.inr q=>Y q) λ(t,n,u,_)=>Y (.inl (aT h,t,n,u,())) else Y (.inr (c,b,()))) (0,((0:Z),((0:Z),((0:Z),()))),((0:Z),((0:Z),((0:Z),()))),m,())).bind λ(_,o,_)=>Y (o,0,()))
def x4:(fA×Z×bz)->bv (bv (bp (Z×cY)×X)×bz):=λ(b,c,_)=>(pZ (1,())).bind λ(i,_)=>(uy (Y ([],0)) c i).bind λg=>(az b.2.2.2.1 c).bind λk=>(loop (σ:=(Z×bv (bp (Z×cY)×X)×bz)) (ρ:=(bv (bp (Z×cY)×X)×bz)) (λ(a,d,_)=>(az b.2.2.2.1 (aT c)).bind λl=>bB (bw (a<l)) ((az b.2.2.2.2.1 a).bind λm=>(az b.2.2.2.2.2.1 a).bind λj=>(kb (j,())).bind λ(h,_)=>(uy d m h).bind λf=>Y (.inl (aT a,f,()))) (Y (.inr (d,())))) (k,g,())).bind λ(e,_)=>Y (e,())
def El:(dd×Z×Z×bz)->bv (dd×bp eV×Z×bz):=λ(a,j,k,_)=>(AS (Y a,())).bind λ(b,_)=>(kb (k,())).bind λ(c,_)=>(o8 (c,())).bind λ(l,_)=>(bB (l==0) ((pZ (1,())).bind λ(m,_)=>(IW (Y a,b,(),m,())).bind λ(n,d,e,_)=>bB (e !=0) (Y (a,[],e,())) ((p1 (d,c,())).bind λ(o,_)=>(q0 (a,b,o,d,())).bind λ(h,_)=>Y (h,[n],0,()))) ((IX (Y a,b,(Y (Y a),Y j,()),c,())).bind λ(p,f,g,_)=>bB (g !=0) (Y (a,[],g,())) ((p1 (f,c,())).bind λ(q,_)=>(q0 (a,b,q,f,())).bind λ(i,_)=>Y (i,[p],0,()))))
def AQ:(Z×Z×Z×cY×cY×bv (bv dd)×bz)->bv (cY×bz):=λ(a,c,d,h,i,b,_)=>b.bind λo=>o.bind λp=>(az p.2.2.2.1 a).bind λq=>(az q c).bind λj=>(nc (j,h,())).bind λ(e,_)=>b.bind λk=>k.bind λl=>(az l.2.2.2.1 a).bind λm=>(az m d).bind λn=>(nc (n,i,())).bind λ(f,_)=>(tI (e,f,())).bind λ(g,_)=>Y (g,())
def Ej:(Z×bv (bv (bv dd)×bz)×amp×amp×bv gU×bz)->bv (cY×bz):=λ(b,c,d,e,a,_)=>c.bind λj=>d.bind λk=>e.bind λl=>a.bind λm=>(az m 2).bind λg=>a.bind λh=>(az h 1).bind λi=>(AQ (b,k,l,g,i,j.1,())).bind λ(f,_)=>Y (f,())
def IY:(bv dd×aU×(bv (bv (bv dd)×bz)×amp×amp×bv gU×bz)×cY×bz)->bv (eV×gU×Z×bz):=λ(r,f,b,q,_)=>(loop (σ:=(Z×eV×eV×gU×bz)) (ρ:=((eV×eV×gU×bz)⊕(eV×gU×Z×bz))) (λ(e,h,a,d,_)=>bB (bw (e<au f)) ((az f e).bind λi=>(Ej (i,b.1,b.2.1,b.2.2.1,b.2.2.2.1,())).bind λ(o,_)=>(tJ (o,q,0,())).bind λ(c,_)=>(pa (c,())).bind λ(p,_)=>bB (!p) (Y (.inr (.inr (a,[],233,())))) (r.bind λs=>(az s.1 i).bind λj=>(c3 ((a.1).length+([j]).length)).bind λ_=>(c3 ((a.2.1).length+([c]).length)).bind λ_=>(kb (c,())).bind λ(g,_)=>(c3 (d.length+([g]).length)).bind λ_=>Y (.inl (aT e,h,((a.1++[j]),((a.2.1++[c]),a.2.2)),(d++[g]),())))) (Y (.inr (.inl (h,a,d,()))))) (0,([],([],())),([],([],())),[],())).bind λm=>match m with
 |.inl (_,k,l,_)=>(Y (k,l,0,()))
 |.inr n=>Y n
def Ek:(Z×bv (bv (bv dd)×bz)×amp×amp×bv gU×bz)->bv (cY×bz):=λ(b,c,d,e,a,_)=>c.bind λj=>d.bind λk=>e.bind λl=>a.bind λm=>(az m 0).bind λg=>a.bind λh=>(az h 1).bind λi=>(AQ (b,k,l,g,i,j.1,())).bind λ(f,_)=>Y (f,())
def IZ:(bv dd×aU×(bv (bv (bv dd)×bz)×amp×amp×bv gU×bz)×cY×bz)->bv (eV×gU×Z×bz):=λ(r,f,b,q,_)=>(loop (σ:=(Z×eV×eV×gU×bz)) (ρ:=((eV×eV×gU×bz)⊕(eV×gU×Z×bz))) (λ(e,h,a,d,_)=>bB (bw (e<au f)) ((az f e).bind λi=>(Ek (i,b.1,b.2.1,b.2.2.1,b.2.2.2.1,())).bind λ(o,_)=>(tJ (o,q,0,())).bind λ(c,_)=>(pa (c,())).bind λ(p,_)=>bB (!p) (Y (.inr (.inr (a,[],233,())))) (r.bind λs=>(az s.1 i).bind λj=>(c3 ((a.1).length+([j]).length)).bind λ_=>(c3 ((a.2.1).length+([c]).length)).bind λ_=>(kb (c,())).bind λ(g,_)=>(c3 (d.length+([g]).length)).bind λ_=>Y (.inl (aT e,h,((a.1++[j]),((a.2.1++[c]),a.2.2)),(d++[g]),())))) (Y (.inr (.inl (h,a,d,()))))) (0,([],([],())),([],([],())),[],())).bind λm=>match m with
 |.inl (_,k,l,_)=>(Y (k,l,0,()))
 |.inr n=>Y n
def AP:(dd×Z×Z×aU×bz)->bv (dd×bp eV×Z×bz):=λ(a,i,m,h,_)=>(AS (Y a,())).bind λ(e,_)=>(az h 0).bind λx=>(kb (x,())).bind λ(b,_)=>(az h 1).bind λy=>(kb (y,())).bind λ(c,_)=>(az h 2).bind λz=>(kb (z,())).bind λ(d,_)=>(vP ([b,c,d],())).bind λ(j,_)=>(IY (Y a,e,(Y (Y (Y a),()),Y i,Y m,Y [b,c,d],()),j,())).bind λ(r,f,k,_)=>(bif k !=0 then Y (a,[],k,()) else(IZ (Y a,e,(Y (Y (Y a),()),Y m,Y i,Y [b,c,d],()),j,())).bind λ(s,g,l,_)=>bif l !=0 then Y (a,[],l,()) else(az [b,c,d] 0).bind λA=>(p1 (f,A,())).bind λ(t,_)=>(q0 (a,e,t,f,())).bind λ(n,_)=>(az [b,c,d] 1).bind λB=>(p1 (f,B,())).bind λ(u,_)=>
 (q0 (n,e,u,g,())).bind λ(o,_)=>(az [b,c,d] 1).bind λC=>(p1 (g,C,())).bind λ(v,_)=>(q0 (o,e,v,f,())).bind λ(p,_)=>(az [b,c,d] 2).bind λD=>(p1 (g,D,())).bind λ(w,_)=>(q0 (p,e,w,g,())).bind λ(q,_)=>Y (q,[r,s],0,()))
def Ep:((bv (Z×((bp aU×bz)×(bp (bv (bp (Z×cY)×X))×bz)))×(aU×(aU×(aU×(bp eV×eN)))))×dd×aU×bz)->bv ((bv (Z×((bp aU×bz)×(bp (bv (bp (Z×cY)×X))×bz)))×(aU×(aU×(aU×(bp eV×eN)))))×dd×Z×bz):=λ(C,D,a,_)=>(loop (σ:=(Z×(bv (Z×((bp aU×bz)×(bp (bv (bp (Z×cY)×X))×bz)))×(aU×(aU×(aU×(bp eV×eN)))))×dd×aU×bz)) (ρ:=((bv (Z×((bp aU×bz)×(bp (bv (bp (Z×cY)×X))×bz)))×(aU×(aU×(aU×(bp eV×eN)))))×dd×aU×bz)) (λ(d,o,r,l,_)=>bif bw (d<au a) then(loop (σ:=(Z×(bv (Z×((bp aU×bz)×(bp (bv (bp (Z×cY)×X))×bz)))×(aU×(aU×(aU×(bp eV×eN)))))×dd×aU×bz)) (ρ:=((bv (Z×((bp aU×bz)×(bp (bv (bp (Z×cY)×X))×bz)))×(aU×(aU×(aU×(bp eV×eN)))))×dd×aU×bz)) (λ(i,p,j,h,_)=>bif bw (i<aT d) then(az a d).bind λF=>
 (az a i).bind λG=>(tO (Y j,F,G,())).bind λ(n,_)=>(c3 (h.length+([n]).length)).bind λ_=>Y (.inl (aT i,p,j,(h++[n]),())) else Y (.inr (p,j,h,()))) (0,o,r,l,())).bind λ(g,e,u,_)=>(az a d).bind λH=>(bn (e.2.2.1).length H).bind λm=>((((be e.2.2.1 m λ_=>Y ((e.2.2.1).set m bu)).map λN=>(N,e.2.2.2)).map λO=>(e.2.1,O)).map λP=>(e.1,P)).bind λt=>(az a d).bind λI=>rd t.1 I λs=>(c3 ((g.2.1).length+([s]).length)).bind λ_=>Y (.inl (aT d,(g.1,((g.2.1++[s]),g.2.2)),t,u,())) else Y (.inr (o,r,l,()))) (0,C,D,[],())).bind λ(b,q,f,_)=>(c3 ((b.2.2.1).length+([au a]).length)).bind λ_=>(c3 ((b.2.2.2.1).length+f.length)).bind λ_=>bE (α:=(Z×bp eV×(bv (Z×((bp aU×bz)×(bp (bv (bp (Z×cY)×X))×bz)))×(aU×(aU×(aU×(bp eV×eN)))))×dd×bz)) (bif au a==1 then
 (az a 0).bind λJ=>rd f 0 λK=>(El (q,J,K,())).bind λ(w,y,z,_)=>Y (z,y,(b.1,(b.2.1,((b.2.2.1++[au a]),((b.2.2.2.1++f),b.2.2.2.2)))),w,()) else(az a 0).bind λL=>(az a 1).bind λM=>(AP (q,L,M,f,())).bind λ(x,A,B,_)=>Y (B,A,(b.1,(b.2.1,((b.2.2.1++[au a]),((b.2.2.2.1++f),b.2.2.2.2)))),x,())) λ(v,k,c,E,_)=>(c3 ((c.2.2.2.2.1).length+k.length)).bind λ_=>Y ((c.1,(c.2.1,(c.2.2.1,(c.2.2.2.1,((c.2.2.2.2.1++k),c.2.2.2.2.2))))),E,v,())
def Es:((bv (Z×((bp aU×bz)×(bp (bv (bp (Z×cY)×X))×bz)))×(aU×(aU×(aU×(bp eV×eN)))))×dd×bz)->bv ((bv (Z×((bp aU×bz)×(bp (bv (bp (Z×cY)×X))×bz)))×(aU×(aU×(aU×(bp eV×eN)))))×dd×Z×bz):=λ(n,s,_)=>(loop (σ:=((bv (Z×((bp aU×bz)×(bp (bv (bp (Z×cY)×X))×bz)))×(aU×(aU×(aU×(bp eV×eN)))))×dd×bz)) (ρ:=(((bv (Z×((bp aU×bz)×(bp (bv (bp (Z×cY)×X))×bz)))×(aU×(aU×(aU×(bp eV×eN)))))×dd×bz)⊕((bv (Z×((bp aU×bz)×(bp (bv (bp (Z×cY)×X))×bz)))×(aU×(aU×(aU×(bp eV×eN)))))×dd×Z×bz))) (λ(d,c,_)=>(Ei (Y c,())).bind λ(h,i,_)=>bB (i !=0) (Y (.inr (.inr (d,c,i,())))) (bB (au h==0) (Y (.inr (.inl (d,c,())))) ((Ep (d,c,h,())).bind λ(f,g,j,_)=>bB (j !=0) (Y (.inr (.inr (f,g,j,())))) (Y (.inl (f,g,())))))) (n,s,())).bind λl=>match l with
 |.inl (o,k,_)=>((loop (σ:=(Z×(bv (Z×((bp aU×bz)×(bp (bv (bp (Z×cY)×X))×bz)))×(aU×(aU×(aU×(bp eV×eN)))))×dd×bz)) (ρ:=((bv (Z×((bp aU×bz)×(bp (bv (bp (Z×cY)×X))×bz)))×(aU×(aU×(aU×(bp eV×eN)))))×dd×bz)) (λ(e,a,b,_)=>bB (bw (e<k.2.1)) (bE (α:=((bv (Z×((bp aU×bz)×(bp (bv (bp (Z×cY)×X))×bz)))×(aU×(aU×(aU×(bp eV×eN)))))×dd×bz)) (rd b.2.2.1 e λu=>bB u (Y ((a.1,(a.2.1,(a.2.2.1,(a.2.2.2.1,(a.2.2.2.2.1,(aT a.2.2.2.2.2.1,a.2.2.2.2.2.2)))))),b,())) (Y (a,b,()))) λ(p,r,_)=>Y (.inl (aT e,p,r,()))) (Y (.inr (a,b,())))) (0,o,k,())).bind λ(q,t,_)=>Y (q,t,0,()))
 |.inr m=>Y m
def AM:(mE×aU×bp vu×bz)->bv (fA×Z×bz):=λ(x,o,b,_)=>(tS (x,o,())).bind λ(i,p,_)=>(bif p !=0 then Y ((([]:aU),(([]:aU),(([]:aU),(([]:aU),(([]:aU),(([]:aU),((0:Z),()))))))),p,()) else i.bind λM=>(vW (M.2.1,b,())).bind λ(q,_)=>bif q !=0 then Y ((([]:aU),(([]:aU),(([]:aU),(([]:aU),(([]:aU),(([]:aU),((0:Z),()))))))),q,()) else(EF (b,(),())).bind λ(E,_)=>bif E then Y ((([]:aU),(([]:aU),(([]:aU),(([]:aU),(([]:aU),(([]:aU),((0:Z),()))))))),6,()) else((fR (au b) (au b)).bind λD=>(loop (σ:=(Z×fA×(bv (Z×((bp aU×bz)×(bp (bv (bp (Z×cY)×X))×bz)))×(aU×(aU×(aU×(bp eV×eN)))))×bp (bp (bv dd))×bz)) (ρ:=((fA×(bv (Z×((bp aU×bz)×(bp (bv (bp (Z×cY)×X))×bz)))×(aU×(aU×(aU×(bp eV×eN)))))×bz)⊕(fA×Z×bz))) (λ(d,k,j,e,_)=>
 bif bw (d<au b) then(bE (α:=(fA×(bv (Z×((bp aU×bz)×(bp (bv (bp (Z×cY)×X))×bz)))×(aU×(aU×(aU×(bp eV×eN)))))×bp (bp (bv dd))×bz)⊕((Z×fA×(bv (Z×((bp aU×bz)×(bp (bv (bp (Z×cY)×X))×bz)))×(aU×(aU×(aU×(bp eV×eN)))))×bp (bp (bv dd))×bz)⊕((fA×(bv (Z×((bp aU×bz)×(bp (bv (bp (Z×cY)×X))×bz)))×(aU×(aU×(aU×(bp eV×eN)))))×bz)⊕(fA×Z×bz)))) ((az b d).bind λl=>rd e d λw=>(Ef (i,l,w,())).bind λ(r,s,_)=>bE (α:=(Z×fA×(bv (Z×((bp aU×bz)×(bp (bv (bp (Z×cY)×X))×bz)))×(aU×(aU×(aU×(bp eV×eN)))))×bp (bp (bv dd))×vu×dd×bz)) (bB (s==0) ((Es (j,r,())).bind λ(B,C,F,_)=>Y (F,k,B,e,l,C,())) (Y (s,k,j,e,l,r,()))) λ(m,u,t,a,f,v,_)=>bif m !=0 then
 Y (.inr (.inr (.inr ((([]:aU),(([]:aU),(([]:aU),(([]:aU),(([]:aU),(([]:aU),((0:Z),()))))))),m,())))) else bB (bw (f.2.2.2.1>=0)) ((bn a.length f.2.2.2.1).bind λn=>(be a n λz=>Y z).bind λK=>(c3 (K.length+([Y v]).length)).bind λ_=>(bn a.length f.2.2.2.1).bind λc=>bB (bL n c&&bt) ((be a c λA=>Y A).bind λL=>(be a c λ_=>Y (a.set c (L++[Y v]))).bind λN=>Y (.inl (u,t,N,()))) br) (Y (.inl (u,t,a,())))) λg=>match g with
 |.inl (J,H,y,_)=>(Y (.inl (aT d,J,H,y,())))
 |.inr h=>Y h) else Y (.inr (.inl (k,j,())))) (0,([],([],([],([],([],([],((0:Z),()))))))),(i,(([]:aU),(([]:aU),(([]:aU),(([]:bp eV),((0:Z),())))))),bM D [],())).bind λg=>match g with
 |.inl (_,I,_)=>((Er (Y I,o,())).bind λ(G,_)=>Y (G,0,()))
 |.inr h=>Y h))
def tN:(bv (bp (Z×cY)×X)×bv (bp (Z×cY)×X)×cY×amp×g3×bz)->bv (g3×bz):=λ(g,h,l,e,o,_)=>e.bind λA=>(loop (σ:=(Z×g3×bz)) (ρ:=(g3×bz)) (λ(c,k,_)=>bif bw (c<A) then e.bind λB=>(loop (σ:=(Z×g3×bz)) (ρ:=(g3×bz)) (λ(a,f,_)=>bif bw (a<B) then bE (α:=(g3×bz)) (bE (α:=(bD×g3×cY×cY×bz)) (bB ((gW (α:=cY) g c).isSome==bt) (Y ((gW (α:=cY) h a).isSome,f,((gW (α:=cY) g c).getD (bu,((bu,(([]:amv),())),((0:Z),())))),((gW (α:=cY) h a).getD (bu,((bu,(([]:amv),())),((0:Z),())))),())) (Y (bu,f,((gW (α:=cY) g c).getD (bu,((bu,(([]:amv),())),((0:Z),())))),((gW (α:=cY) h a).getD (bu,((bu,(([]:amv),())),((0:Z),())))),()))) λ(q,b,u,v,_)=>bif q then e.bind λy=>e.bind λz=>(bn b.length (aD (aD (a*z)+c))).bind λi=>(nc (u,l,())).bind λ(p,_)=>
 (nc (p,v,())).bind λ(j,_)=>(be b i λm=>Y m).bind λw=>(c3 (w.length+([j]).length)).bind λ_=>(bn b.length (aD (aD (a*y)+c))).bind λd=>bB (bL i d&&bt) ((be b d λn=>Y n).bind λx=>(be b d λ_=>Y (b.set d (x++[j]))).bind λC=>Y (C,())) br else Y (b,())) λ(r,_)=>Y (.inl (aT a,r,())) else Y (.inr (f,()))) (0,k,())).bind λ(s,_)=>Y (.inl (aT c,s,())) else Y (.inr (k,()))) (0,o,())).bind λ(t,_)=>Y (t,())
def AN:(fA×bz)->bv (oc×Z×bz):=λ(a,_)=>(vO (a,())).bind λ(n,_)=>(bif n !=0 then Y (((0:Z),((0:Z),(([]:gU),()))),n,()) else bif bw (au a.1>64) then Y (((0:Z),((0:Z),(([]:gU),()))),6,()) else(fR (aD (au a.1*au a.1)) (aD (au a.1*au a.1))).bind λy=>(AT (a,())).bind λ(o,_,_)=>(x2 (a,())).bind λ(p,_)=>(loop (σ:=(Z×oc×Z×g3×g3×bz)) (ρ:=(oc×Z×g3×bz)) (λ(d,i,b,t,j,_)=>bif bw (d<au p) then bE (α:=(oc×Z×g3×g3×bz)) (rd j d λe=>(az o d).bind λF=>(x4 (a,F,())).bind λ(f,_)=>(az e 0).bind λG=>(tN (f,f,G,Y b,t,())).bind λ(k,_)=>bif au e==3 then(az o d).bind λH=>(x4 (a,aT H,())).bind λ(g,_)=>(az e 1).bind λI=>(tN (f,g,I,Y b,k,())).bind λ(v,_)=>(az e 1).bind λJ=>
 (tN (g,f,J,Y b,v,())).bind λ(w,_)=>(az e 2).bind λK=>(tN (g,g,K,Y b,w,())).bind λ(x,_)=>Y (i,b,x,j,()) else Y (i,b,k,j,())) λ(B,z,E,C,_)=>Y (.inl (aT d,B,z,E,C,())) else Y (.inr (i,b,t,()))) (0,((0:Z),((0:Z),([],()))),au a.1,bM y [],p,())).bind λ(D,l,r,_)=>(loop (σ:=(Z×oc×g3×oc×bz)) (ρ:=(oc×oc×bz)) (λ(h,q,s,c,_)=>bB (bw (h<au r)) (rd s h λu=>(DN (u,())).bind λ(m,_)=>(c3 ((c.2.2.1).length+([m]).length)).bind λ_=>Y (.inl (aT h,q,s,(c.1,(c.2.1,((c.2.2.1++[m]),c.2.2.2))),()))) (Y (.inr (q,c,())))) (0,D,r,(l,(l,(([]:gU),()))),())).bind λ(_,A,_)=>Y (A,0,()))
def Ed:(mE×fA×bz)->bv (cY×Z×bz):=λ(j,c,_)=>(vO (c,())).bind λ(h,_)=>(bif h !=0 then Y ((bu,((bu,(([]:amv),())),((0:Z),()))),h,()) else(As (j,c.1,())).bind λ(aY,i,_)=>bif i !=0 then Y ((bu,((bu,(([]:amv),())),((0:Z),()))),i,()) else(AN (c,())).bind λ(q,_,_)=>(pZ (0,())).bind λ(r,_)=>(loop (σ:=(Z×cY×oc×oc×cY×bz)) (ρ:=(cY×cY×bz)) (λ(a,f,b,e,d,_)=>bB (bw (a<au aY.2.2.1)) (bE (α:=(cY×oc×oc×cY×bz)) ((az b.2.2.1 a).bind λt=>(az e.2.2.1 a).bind λu=>(tI (t,u,())).bind λ(o,_)=>(DG (o,())).bind λ(g,_)=>(xS (g,d,())).bind λ(p,_,_)=>bB (bw (p>0)) (Y (f,b,e,g,())) (Y (f,b,e,d,()))) λ(s,k,n,l,_)=>Y (.inl (aT a,s,k,n,l,()))) (Y (.inr (f,d,())))) (0,(bu,((bu,(([]:amv),())),((0:Z),()))),aY,q,r,())).bind λ(_,m,_)=>
 Y (m,0,()))
def DM:(cY×Z×bz)->bv (cY×bz):=λ(c,a,_)=>(nf (c,())).bind λ(b,aY,_)=>(bB (!aY) ((vL ()).bind λ(d,_)=>Y (d,())) ((se (b.2.1,aD (b.2.2.1+(if(-262144:Z)>(if 262144<a then 262144 else a) then(-262144:Z) else if 262144<a then 262144 else a)),())).bind λ(e,_)=>Y (e,())))
def IU:(mE×Z×bD×bz)->bv eN:=λ(a,b,c,_)=>(sh (a,())).bind λ(aY,_)=>(bB (aY !=0) (Y (aY,())) (bB (a.1 !=a.2.1) (Y (5,())) (bB (bw (a.1>16)) (Y (6,())) ((Ay (b,())).bind λ(d,_)=>bB ((d==3)==bu) (bB ((!c)==bt) ((pa (b,())).bind λ(e,_)=>bB (!e) (Y (4,())) (Y (0,()))) (Y (0,()))) (Y (4,()))))))
def D5:(mE×Z×bz)->bv (g3×bz):=λ(a,R,_)=>(fR a.1 a.1).bind λt=>(loop (σ:=(Z×g3×bz)) (ρ:=(g3×bz)) (λ(j,w,_)=>bB (bw (j<au ((bM t []):g3))) ((fR a.2.1 a.2.1).bind λI=>wr w j (bM I (bu,((bu,(([]:amv),())),((0:Z),())))) λa3=>Y (.inl (aT j,a3,()))) (Y (.inr (w,())))) (0,bM t [],())).bind λ(N,_)=>(loop (σ:=(Z×g3×bz)) (ρ:=(g3×bz)) (λ(d,u,_)=>bif bw (d<a.2.1) then(az a.2.2.1 d).bind λS=>(loop (σ:=(Z×g3×bz)) (ρ:=(g3×bz)) (λ(f,c,_)=>(az a.2.2.1 (aT d)).bind λT=>bif bw (f<T) then bE (α:=(g3×bz)) ((az a.2.2.2.1 f).bind λk=>bif bw (k>=d) then(bn c.length k).bind λg=>(bn c.length d).bind λh=>(az a.2.2.2.2.1 f).bind λU=>(kb (U,())).bind λ(J,_)=>(az a.2.2.2.2.1 f).bind λV=>(kb (V,())).bind λ(K,_)=>
 ((be c g λx=>Y x).bind λy=>bn y.length d).bind λp=>(be c g λm=>(be m p λ_=>Y (m.set p J)).map λam=>c.set g am).bind λl=>((be l h λz=>Y z).bind λA=>bn A.length k).bind λq=>(be l h λn=>(be n q λ_=>Y (n.set q K)).map λan=>l.set h an).bind λap=>Y (ap,()) else Y (c,())) λ(O,_)=>Y (.inl (aT f,O,())) else Y (.inr (c,()))) (S,u,())).bind λ(P,_)=>Y (.inl (aT d,P,())) else Y (.inr (u,()))) (0,N,())).bind λ(v,_)=>(loop (σ:=(Z×g3×bz)) (ρ:=(g3×bz)) (λ(e,b,_)=>bif bw (e<au v) then(bn b.length e).bind λi=>(bn b.length e).bind λr=>((be b r λB=>Y B).bind λC=>bn C.length e).bind λH=>(be b r λD=>be D H λE=>Y E).bind λad=>(kb (R,())).bind λ(L,_)=>(tI (ad,L,())).bind λ(M,_)=>
 ((be b i λF=>Y F).bind λG=>bn G.length e).bind λs=>(be b i λo=>(be o s λ_=>Y (o.set s M)).map λav=>b.set i av).bind λa0=>Y (.inl (aT e,a0,())) else Y (.inr (b,()))) (0,v,())).bind λ(Q,_)=>Y (Q,())
def DH:(cY×bz)->bv (eQ×bD×bz):=λ(b,_)=>(nf (b,())).bind λ(a,c,_)=>(bB (!c) (Y ((bu,(([]:aU),())),bu,())) ((qZ (a.2.1,a.2.2.1,())).bind λ(aY,_,_)=>Y (aY,bt,())))
def AL:(g3×bz)->bv (bp (bp eQ)×bz):=λ(b,_)=>(loop (σ:=r4) (ρ:=eN) (λ(k,h,_)=>bB (bw (h<au b)) ((az b h).bind λo=>(loop (σ:=r4) (ρ:=eN) (λ(e,i,_)=>bB (bw (i<au o)) (bE (α:=eN) ((az o i).bind λD=>(tH (D,())).bind λ(f,_)=>(o8 (f,())).bind λ(z,_)=>bB (z !=0) (Y ((if f.2.2.1<e then f.2.2.1 else e),())) (Y (e,()))) λ(r,_)=>Y (.inl (r,aT i,()))) (Y (.inr (e,())))) (k,0,())).bind λ(s,_)=>Y (.inl (s,aT h,()))) (Y (.inr (k,())))) (0,0,())).bind λ(t,_)=>(fR (au b) (au b)).bind λu=>(loop (σ:=(Z×bp (bp eQ)×bz)) (ρ:=(bp (bp eQ)×bz)) (λ(c,l,_)=>bif bw (c<au b) then(az b c).bind λn=>(loop (σ:=(Z×bp (bp eQ)×bz)) (ρ:=(bp (bp eQ)×bz)) (λ(g,a,_)=>bif bw (g<au n) then
 (az n g).bind λC=>(DM (C,aD (0-t),())).bind λ(x,_)=>(DH (x,())).bind λ(y,_,_)=>(bn a.length c).bind λj=>(tM (y,())).bind λ(m,_)=>(be a j λp=>Y p).bind λA=>(c3 (A.length+([m]).length)).bind λ_=>(bn a.length c).bind λd=>bB (bL j d&&bt) ((be a d λq=>Y q).bind λB=>(be a d λ_=>Y (a.set d (B++[m]))).bind λE=>Y (.inl (aT g,E,()))) br else Y (.inr (a,()))) (0,l,())).bind λ(v,_)=>Y (.inl (aT c,v,())) else Y (.inr (l,()))) (0,bM u [],())).bind λ(w,_)=>Y (w,())
def Ax:(bp (bp eQ)×bz)->bv eN:=λ(a,_)=>(bB (au a==0) (Y (0,())) ((az a 0).bind λb=>Y (au b,())))
def IS:(bp eQ×amp×bz)->bv kV:=λ(b,a,_)=>a.bind λc=>Y ((au b !=c),())
def EH:(bp (bp eQ)×eg×bz)->bv eN:=λ(b,c,_)=>(loop (σ:=eN) (ρ:=(bz⊕eN)) (λ(a,_)=>bB (bw (a<au b)) ((az b a).bind λg=>(IS (g,c.1,())).bind λ(f,_)=>bB f (Y (.inr (.inr (a,())))) (Y (.inl (aT a,())))) (Y (.inr (.inl ())))) (0,())).bind λd=>match d with
 |.inl _=>(Y ((-1:Z),()))
 |.inr e=>Y e
def I4:(bp (bp eQ)×eg×bz)->bv kV:=λ(c,a,_)=>(EH (c,(a.1,()),())).bind λ(b,_)=>Y (bw (b>=0),())
def DQ:(bp (bp eQ)×bz)->bv eN:=λ(a,_)=>(Ax (a,())).bind λ(b,_)=>(I4 (a,(Y b,()),())).bind λ(c,_)=>(bB c (Y (5,())) (bB (bw (au a>16)==bu) (bB (bw (b>16)) (Y (6,())) (Y (0,()))) (Y (6,()))))
def DS:(bp (bp eQ)×bz)->bv eN:=λ(a,_)=>(DQ (a,())).bind λ(b,_)=>bE (α:=bz⊕eN) (bB ((b==0)==bt) ((Ax (a,())).bind λ(e,_)=>bB (au a !=e) (Y (.inr (5,()))) (Y (.inl ()))) (Y (.inl ()))) λc=>match c with
 |.inl _=>(Y (b,()))
 |.inr d=>Y d
def DT:(bp (bp eQ)×bp eQ×bz)->bv (bp (bp eQ)×bz):=λ(g,e,_)=>(loop (σ:=(Z×bp (bp eQ)×bz)) (ρ:=(bp (bp eQ)×bz)) (λ(a,h,_)=>bif bw (a<au g) then bE (α:=(bp (bp eQ)×bz)) ((az g a).bind λn=>(loop (σ:=(Z×bp (bp eQ)×bp eQ×bz)) (ρ:=(bp (bp eQ)×bp eQ×bz)) (λ(d,i,b,_)=>bB (bw (d<au n)) ((az n d).bind λq=>(tM (q,())).bind λ(l,_)=>(c3 (b.length+([l]).length)).bind λ_=>Y (.inl (aT d,i,(b++[l]),()))) (Y (.inr (i,b,())))) (0,h,[],())).bind λ(j,c,_)=>bE (α:=(bp (bp eQ)×bp eQ×bz)) (bB (bw (a<au e)) ((az e a).bind λr=>(tM (r,())).bind λ(m,_)=>(c3 (c.length+([m]).length)).bind λ_=>Y (j,(c++[m]),())) (Y (j,c,()))) λ(k,f,_)=>(c3 (k.length+([f]).length)).bind λ_=>Y ((k++[f]),())) λ(o,_)=>
 Y (.inl (aT a,o,())) else Y (.inr (h,()))) (0,[],())).bind λ(p,_)=>Y (p,())
def DR:(bp (bp eQ)×bp (bp eQ)×bz)->bv (bp (bp eQ)×bz):=λ(e,p,_)=>(loop (σ:=(Z×bp (bp eQ)×bz)) (ρ:=(bp (bp eQ)×bz)) (λ(b,m,_)=>bif bw (b<au e) then(az e b).bind λd=>(loop (σ:=(Z×bp (bp eQ)×bp eQ×bz)) (ρ:=(bp (bp eQ)×bp eQ×bz)) (λ(c,j,f,_)=>bB (bw (c<au d)) ((loop (σ:=(Z×bp (bp eQ)×bp eQ×eQ×bz)) (ρ:=(bp (bp eQ)×bp eQ×eQ×bz)) (λ(a,k,g,n,_)=>bB (bw (a<au d)) ((az d a).bind λu=>(az p a).bind λv=>(az v c).bind λw=>(AG (u,w,())).bind λ(s,_)=>(p0 (n,s,())).bind λ(t,_)=>Y (.inl (aT a,k,g,t,()))) (Y (.inr (k,g,n,())))) (0,j,f,(bu,([],())),())).bind λ(q,h,o,_)=>(c3 (h.length+([o]).length)).bind λ_=>Y (.inl (aT c,q,(h++[o]),()))) (Y (.inr (j,f,())))) (0,m,[],())).bind λ(l,i,_)=>
 (c3 (l.length+([i]).length)).bind λ_=>Y (.inl (aT b,(l++[i]),())) else Y (.inr (m,()))) (0,[],())).bind λ(r,_)=>Y (r,())
def D7:(eQ×eQ×bz)->bv (eQ×Z×bz):=λ(c,d,_)=>(vN (c,d,())).bind λ(a,aY,b,_)=>bE (α:=(eQ×eQ×bz)⊕(eQ×Z×bz)) (bE (α:=(bD×eQ×eQ×bz)) (bB ((b==0)==bt) (Y (bw (au aY.2.1>0),(bu,([],())),a,())) (Y (bu,(bu,([],())),a,()))) λ(i,j,g,_)=>bB i (Y (.inr ((bu,(([]:aU),())),10,()))) (Y (.inl (j,g,())))) λe=>match e with
 |.inl (_,f,_)=>(Y (f,b,()))
 |.inr h=>Y h
def DP:(bp (bp eQ)×bz)->bv (bp eQ×bz):=λ(a,_)=>(fR (aT (au a)) (aT (au a))).bind λh=>(sf (1,())).bind λ(R,_)=>(bn (bM h (bu,(([]:amv),()))).length (au a)).bind λn=>(be (bM h (bu,(([]:amv),()))) n λ_=>Y ((bM h (bu,(([]:amv),()))).set n R)).bind λbl=>(fR (au a) (au a)).bind λp=>(loop (σ:=(Z×bp eQ×bp (bp eQ)×bz)) (ρ:=(bp eQ×bp (bp eQ)×bz)) (λ(j,s,t,_)=>bB (bw (j<au ((bM p []):bp (bp eQ)))) ((fR (au a) (au a)).bind λJ=>wr t j (bM J (bu,(([]:amv),()))) λa0=>Y (.inl (aT j,s,a0,()))) (Y (.inr (s,t,())))) (0,bl,bM p [],())).bind λ(L,P,_)=>(loop (σ:=(Z×bp eQ×bp (bp eQ)×bz)) (ρ:=(bp eQ×bz)) (λ(d,q,u,_)=>bif bw (d<=au a) then(loop (σ:=(Z×bp eQ×bp (bp eQ)×bz)) (ρ:=(bp eQ×bp (bp eQ)×bz)) (λ(c,i,b,_)=>
 bB (bw (c<au u)) ((bn b.length c).bind λg=>(bn b.length c).bind λl=>((be b l λx=>Y x).bind λy=>bn y.length c).bind λH=>(be b l λz=>be z H λA=>Y A).bind λan=>rd i (aT (aD (au a-d))) λap=>(p0 (an,ap,())).bind λ(S,_)=>((be b g λB=>Y B).bind λC=>bn C.length c).bind λm=>(be b g λk=>(be k m λ_=>Y (k.set m S)).map λa3=>b.set g a3).bind λa4=>Y (.inl (aT c,i,a4,()))) (Y (.inr (i,b,())))) (0,q,u,())).bind λ(M,Q,_)=>(DR (a,Q,())).bind λ(v,_)=>(loop (σ:=(Z×bp eQ×bp (bp eQ)×eQ×bz)) (ρ:=(bp eQ×bp (bp eQ)×eQ×bz)) (λ(f,r,e,w,_)=>bif bw (f<au v) then(bn e.length f).bind λo=>((be e o λD=>Y D).bind λE=>bn E.length f).bind λI=>
 (be e o λF=>be F I λG=>Y G).bind λav=>(p0 (w,av,())).bind λ(T,_)=>Y (.inl (aT f,r,e,T,())) else Y (.inr (r,e,w,()))) (0,M,v,(bu,([],())),())).bind λ(N,K,am,_)=>(sf (d,())).bind λ(U,_)=>(D7 (am,U,())).bind λ(V,_,_)=>(sg (V,())).bind λ(ad,_)=>wr N (aD (au a-d)) ad λbs=>Y (.inl (aT d,bs,K,())) else Y (.inr (q,()))) (1,L,P,())).bind λ(O,_)=>Y (O,())
def DO:(bp (bp eQ)×bz)->bv dV:=λ(a,_)=>(DS (a,())).bind λ(p,_)=>(bif p !=0 then Y (0,0,0,p,()) else((loop (σ:=ee) (ρ:=(r4⊕dV)) (λ(s,n,e,_)=>bif bw (e<au a) then((az a e).bind λq=>(loop (σ:=ee) (ρ:=(r4⊕(ee⊕(r4⊕dV)))) (λ(t,o,f,_)=>bB (bw (f<au q)) ((az q f).bind λB=>(az a f).bind λC=>(az C e).bind λD=>(xX (B,D,())).bind λ(y,_)=>bB (y !=0) (Y (.inr (.inr (.inr (.inr (0,0,0,80,())))))) (Y (.inl (t,o,aT f,())))) (Y (.inr (.inl (t,o,()))))) (s,n,0,())).bind λb=>match b with
 |.inl (G,v,_)=>(Y (.inl (G,v,aT e,())))
 |.inr c=>Y c) else Y (.inr (.inl (s,n,())))) (0,0,0,())).bind λb=>match b with
 |.inl (H,w,_)=>((DT (a,[],())).bind λ(z,_)=>(DP (z,())).bind λ(h,_)=>(loop (σ:=eN) (ρ:=eN) (λ(d,_)=>bE (α:=bz⊕(eN⊕eN)) (bB (bw (d<au a)==bt) ((az h d).bind λE=>(oj (E,())).bind λ(A,_)=>bB (A==0) (Y (.inl ())) (Y (.inr (.inr (d,()))))) (Y (.inr (.inr (d,()))))) λb=>match b with
 |.inl _=>(Y (.inl (aT d,())))
 |.inr c=>Y c) (H,())).bind λ(r,_)=>(loop (σ:=ee) (ρ:=eN) (λ(g,k,j,_)=>bB (bw (j<au h)) (bE (α:=r4) ((az h j).bind λF=>(oj (F,())).bind λ(i,_)=>bE (α:=eN) (bB (bw (aD (i*k)<0)) (Y (aT g,())) (Y (g,()))) λ(l,_)=>bB (i !=0) (Y (l,i,())) (Y (l,k,()))) λ(x,u,_)=>Y (.inl (x,u,aT j,()))) (Y (.inr (g,())))) (w,0,0,())).bind λ(m,_)=>Y (aD (aD (au a-r)-m),r,m,0,()))
 |.inr c=>Y c))
def D4:(mE×Z×bz)->bv (kl×Z×bz):=λ(a,c,_)=>(IU (a,c,bu,())).bind λ(b,_)=>(bB (b !=0) (Y (((0:Z),((0:Z),((0:Z),()))),b,())) ((D5 (a,c,())).bind λ(aY,_)=>(AL (aY,())).bind λ(d,_)=>(DO (d,())).bind λ(e,f,g,h,_)=>Y ((e,(f,(g,()))),h,())))
def AZ:eN->bv eN:=λ(a,_)=>(ye (a,17,())).bind λ(e,_)=>bE (α:=eN) ((kN bG (aS a) 17).bind λb=>(jH (aD b) 3).bind λh=>bB (h==0) ((kN bN (aD b) 3).bind λi=>(jH i 13).bind λj=>Y (aD (j-6),())) (Y (0,()))) λ(c,_)=>(E3 (aD (e-8),())).bind λ(f,_)=>(E4 (f,c,())).bind λ(g,_)=>(E7 (g,0,())).bind λ(d,_)=>Y (d,())
def EW:(Z×aU×bz)->bv (mE×bz):=λ(b,d,_)=>(loop (σ:=(Z×mE×bp kl×bz)) (ρ:=(mE×bp kl×bz)) (λ(a,n,j,_)=>bB (bw (a<b)) ((EV (d,a,())).bind λ(u,_)=>(AZ (u,())).bind λ(l,_)=>(c3 (j.length+([(a,(a,(l,())))]).length)).bind λ_=>Y (.inl (aT a,n,(j++[(a,(a,(l,())))]),()))) (Y (.inr (n,j,())))) (0,((0:Z),((0:Z),([],([],([],()))))),[],())).bind λ(w,q,_)=>(loop (σ:=(Z×mE×bp kl×bz)) (ρ:=(mE×bp kl×bz)) (λ(c,k,h,_)=>bE (α:=(mE×bp kl×bz)⊕((Z×mE×bp kl×bz)⊕(mE×bp kl×bz))) (bB (bw (aD (c+2)<au d)==bt) (bB (bw (b>0)) (Y (.inl (k,h,()))) (Y (.inr (.inr (k,h,()))))) (Y (.inr (.inr (k,h,()))))) λr=>match r with
 |.inl (m,i,_)=>(bE (α:=(mE×bp kl×bz)) ((az d c).bind λx=>(ye (x,b,())).bind λ(e,_)=>(az d (aT c)).bind λy=>(ye (y,b,())).bind λ(f,_)=>(az d (aD (c+2))).bind λz=>(AZ (z,())).bind λ(g,_)=>bB (e !=f) ((c3 (i.length+([(e,(f,(g,()))),(f,(e,(g,())))]).length)).bind λ_=>Y (m,(i++[(e,(f,(g,()))),(f,(e,(g,())))]),())) (Y (m,i,()))) λ(v,o,_)=>Y (.inl (aD (c+3),v,o,())))
 |.inr s=>Y s) (b,w,q,())).bind λ(_,p,_)=>(vU (b,b,p,())).bind λ(t,_)=>Y (t,())
def yk:bz->bv kV:=λ_=>Y (bt,())
def Jm:(aU×Z×aU×bz)->bv kV:=λ(i,k,g,_)=>(bif bw (au g>40) then(yk ()).bind λ(aY,_)=>Y (aY,()) else(yb (k,5,())).bind λ(b,_)=>(EW (b,g,())).bind λ(c,_)=>(ER (i,b,())).bind λ(h,_)=>(ya (c,h,i,())).bind λ(x,_)=>(AM (c,h,x,())).bind λ(d,n,_)=>bif n !=0 then(yk ()).bind λ(o,_)=>Y (o,()) else((Ed (c,d,())).bind λ(p,q,_)=>(Ee (d,())).bind λ(a,r,_)=>(D4 (c,0,())).bind λ(s,t,_)=>bE (α:=(cY×kl×kl×bz)⊕kV) (bB ((q !=0)==bu) (bB ((r !=0)==bu) (bB ((t !=0)==bu) (bB ((au d.1 !=b)==bu) (bB (aD (aD (a.1+a.2.1)+a.2.2.1)!=b) (Y (.inr (bu,()))) (Y (.inl (p,a,s,())))) (Y (.inr (bu,())))) (Y (.inr (bu,())))) (Y (.inr (bu,())))) (Y (.inr (bu,())))) λl=>match l with
 |.inl (j,e,f,_)=>((ET (j,(bu,((bu,(([]:amv),())),((0:Z),()))),())).bind λ(u,_)=>bB ((!u)==bu) (bB ((((e).1==(f).1)&&(((e).2.1==(f).2.1)&&(((e).2.2.1==(f).2.2.1)&&bt)))==bt) ((yk ()).bind λ(v,_)=>Y (v,())) (Y (bu,()))) ((yk ()).bind λ(w,_)=>Y (w,())))
 |.inr m=>Y m))
end Go.j5
section
namespace Go.Proofs
open Go.RowKit Go.Shelf Go.Sort
attribute [local go_sem] Oper.semAt_some
def Tryz.Z6:Go.Shelf.Ren:=⟨λ|20=>299|n=>n,λ|22=>23|3=>3|4=>4|0=>0|n=>n,λ|n=>n⟩
def Tryz.Qr:Lays2.n20 ct Tryz.Z6 where
 mixed:=by kernel_rfl
 f20:=Tryz.func299.trans (b9 Y (by kernel_rfl))
 t0:=Tryz.underlying0
 a0:=Tryz.isAgg0
 z0:=Tryz.sizeOf0
 v0:=Tryz.zeroValue0
 t3:=Tryz.underlying3
 a3:=Tryz.isAgg3
 z3:=Tryz.sizeOf3
 v3:=Tryz.zeroValue3
 t4:=Tryz.underlying4
 a4:=Tryz.isAgg4
 z4:=Tryz.sizeOf4
 v4:=Tryz.zeroValue4
 t22:=aro
 a22:=Tryz.isAgg23
 z22:=Tryz.sizeOf23
 v22:=Tryz.zeroValue23
 i3:=by kernel_rfl
namespace Nm
def nv {a:Type} (b:X->a) (c:X):bp a:=(bK c).map b
def UB {c:Type} (a:X->c) (b:X):nv a (b+1)=nv a b++[a b]:=by simp[nv,kj]
def aih {c:Type} (b:X->c) (a:X):(nv b a).length=a:=by simp[nv]
def aig (a:amv):nv (λc=>a[c]?.getD 0) a.length=a:=by
 apply aoJ
 ·simp[nv]
 intro e d b;simp[nv,b]
set_option maxRecDepth 100000 in
set_option maxHeartbeats 2000000 in
def aip (j:anC) (m:X) (A:j.fn 323) (K:j.round=br) (T:1<=m) (v q n h k b x:X) (g:amv) (U:b*8<=140737488351232) (F:h<n) (J r:amv->bF->Prop) (E:∀e o c,J e c->e.length<b->YieldAt j (m-1) ct v #[.int .i64 o] c λi f=>
  (i=.returned (.bool bt)/\J (e++[o]) f/\Below n c f)\/(i=.returned (.bool bu)/\r (e++[o]) f))
 (c:bF) (Q:c.cell? ⟨q,0,br⟩=Y (.slice (Y ⟨h,k,br⟩) b x)) (G:∀d,d<b->c.cell? ⟨h,k+d,br⟩=Y (.int .i64 (g[d]?.getD 0))) (z:J [] c):
 anr j m ct 323 #[.func (.yield v) #[] #[],.pointer (Y ⟨q,0,br⟩)] c λi f=>(∃L,i=.returned L)/\((∃w,w=nv (λd=>g[d]?.getD 0) b/\J w f)\/(∃e,(∃a,a<=b/\e=nv (λd=>g[d]?.getD 0) a)/\r e f)):=by
 refine aok aqm bq A ?_ K;simp only[arp,vg,iK,qC,amC,anD,xa,xb,xp,xm,h3,kR]
 gi_wp2
 gi_loopw [7] (λl wr=>∃a:X,a<=b/\l=.int .i64 a/\J (nv (λd=>g[d]?.getD 0) a) wr/\Below n c wr) (λl _=>b-(intOf l).toNat)
 case atStart=>exact⟨0,eU _,bq,z,aoK _ _⟩
 case round=>
  obtain⟨a,S,rfl,s,u⟩:=hrel;have H:a<b->wr.cell? ⟨h,k+a,br⟩=Y (.int .i64 (g[a]?.getD 0)):=λy=>(u.cell (p:=⟨h,k+a,br⟩) F).trans (G a y);by_cases t:a<b
  ·obtain⟨P,ad,N,O,V,D⟩:=E _ (g[a]?.getD 0) wr s (by rw[aih];exact t);have R:=H t
   gi_wp2
   refine D.mono ?_;rintro i M (⟨rfl,B,I⟩|⟨rfl,C⟩)
   ·gi_wp2
    go_roundw
    case rel=>exact⟨a+1,aa,ac,by rw[UB];exact B,u.trans I⟩
    case measure=>simp[intOf];omega
   gi_wp2
   refine bodyPost_ret (results_none bq _ _ _) rfl ?_;exact⟨⟨_,bq⟩,.inr ⟨_,⟨a+1,aa,(UB _ _).symm⟩,C⟩⟩
  obtain rfl:a=b:=by omega
  gi_wp2
  go_end0
  exact⟨⟨_,bq⟩,.inl ⟨_,bq,s⟩⟩
def aii (a:amv) {b:X} (d:b<=a.length):nv (λf=>a[f]?.getD 0) b=a.take b:=by
 apply aoJ
 ·simp[nv,d]
 intro e c g;have:e<a.length:=(by simp[nv] at c;omega);simp[nv,this]
def qr (i:X) (g:bF) (f:Value) (a:amv):Prop:=
 (∃h c,f=.slice h 0 c/\a=[])\/∃b e c,f=.slice (Y ⟨b,e,br⟩) a.length c/\b<i/\∀d,d<a.length->g.cell? ⟨b,e+d,br⟩=Y (.int .i64 (a[d]?.getD 0))
def qr.below {b:X} {c d:bF} (l:Below b c d) {i:Value} {j:amv}:qr b c i j->qr b d i j
 |.inl a=>.inl a
 |.inr ⟨e,h,k,a,f,m⟩=>.inr ⟨e,h,k,a,f,λg n=>(l.cell (p:=⟨e,h+g,br⟩) f).trans (m g n)⟩
set_option maxRecDepth 100000 in
set_option maxHeartbeats 1000000 in
def aiq (a:anC) (n:X) (i:a.fn 323) (k:a.round=br) (m c:X) (e:bv ck) (f:X) (J:amv->bF->Prop) (b:bF) (p:b.cell? ⟨c,0,br⟩=Y (.slice e 0 f)) (h:J [] b):anr a n ct 323 #[.func (.yield m) #[] #[],.pointer (Y ⟨c,0,br⟩)] b λg d=>(∃o,g=.returned o)/\J [] d:=by
 refine aok aqm bq i ?_ k;simp only[arp,vg,iK,qC,amC,anD,xa,xb,xp,xm,h3,kR]
 gi_wp2
 gi_loopw [7] (λl wr=>l=.int .i64 0/\J [] wr) (λ_ _=>0)
 case atStart=>exact⟨bq,h⟩
 case round=>
  obtain⟨rfl,j⟩:=hrel
  gi_wp2
  go_end0
  exact⟨⟨_,bq⟩,j⟩
set_option maxHeartbeats 1000000 in
def air (a:anC) (i:X) (g:a.fn 301) (h:a.round=br) (c:bv ck) (e d:X) (b:bF):anr a i ct 301 #[.slice c e d] b λf j=>f=.returned (.func (.func 323) #[] #[.pointer (Y ⟨b.heap.size,0,br⟩)])/\j=b.alloc (.cells #[.slice c e d] 23):=by
 refine aok Tryz.func301 bq g ?_ h;simp only[Tryz.ntmps301,vg,iK,qC,amC,anD,xa,xb,xp,xm,h3,kR]
 gi_wp2
 go_ret
 exact⟨bq,bq⟩
def ais (c:anC) (g:X) (l:c.fn 323) (o:c.round=br) (G:1<=g) (b h:X) (s:Value) (a:amv) (I:a.length*8<=140737488351232) (e:bF) (z:b<e.heap.size) (H:h<=e.heap.size) (D:e.cell? ⟨b,0,br⟩=Y s) (A:qr h e s a):SeqStopsK c g ct 323 #[.pointer (Y ⟨b,0,br⟩)] (λL:Z=>#[amJ .i64 L]) (Below h) (λt=>t=a) (λr=>r<+:a) a.length e:=λq J u j m _ _ B k=>by
 have n:=(m.cell (p:=⟨b,0,br⟩) z).trans D;rcases A.below (m.mono H) with⟨w,i,rfl,rfl⟩|⟨x,K,i,rfl,C,E⟩
 ·exact(aiq c g l o q b w i J j n k).mono λy v ⟨f,d⟩=>⟨f,.inl ⟨_,bq,d⟩⟩
 refine(aip c g l o G q b h x K a.length i a I C J u B j n E k).mono ?_;rintro y v ⟨f,⟨t,rfl,d⟩|⟨r,⟨M,F,rfl⟩,d⟩⟩
 ·exact⟨f,.inl ⟨_,aig a,d⟩⟩
 exact⟨f,.inr ⟨_,by rw[aii a F];exact List.take_prefix _ _,d⟩⟩
def Zz:(ct.info? 3).map (λa=>(a.zero,a.size,a.bytes))=Y (Y (.int .i64 0),1,8):=by kernel_rfl
set_option maxRecDepth 100000 in
set_option maxHeartbeats 2000000 in
def Wh (g:anC) (m:X) (E:g.fn 332) (u:g.fn 323) (q:g.round=br) (a4:3<=m) (e:X) (r:Value) (f:amv) (M:f.length*8<=140737488351232) (a:bF) (F:e<a.heap.size) (o:a.cell? ⟨e,0,br⟩=Y r) (H:qr a.heap.size a r f):anr g m ct 332 #[.slice br 0 0,.func (.func 323) #[] #[.pointer (Y ⟨e,0,br⟩)]] a λB t=>∃b,B=.returned b/\t.ownsRow a.heap.size 3 1 b f.length (f.map (amJ .i64))/\(b=.slice br 0 0↔f=[])/\Below a.heap.size a t:=by
 have D:1<=m:=aa;obtain⟨S,J,P,Q,R⟩:=info_parts Zz;refine callsIn_of_wp_marks Tryz.func332 bq E ?_ q;simp only[Tryz.ntmps332,vg,iK,qC,amC,anD,xa,xb,xp,xm,h3,kR]
 gi_wp2
 have A:=arq a 23 (.slice br 0 0);have n:Below a.heap.size a (a.alloc (.cells #[.slice br 0 0] 23)):=(aoK _ a).alloc (bf _) _;refine wpIn_rangeFunc_ownG q D (gf:=323) (lb:=#[.pointer (Y ⟨e,0,br⟩)]) rfl u (enters_of aqm (by kernel_rfl) rfl) (ais g (m-1) u q aa e a.heap.size r f M _ (by simp;omega) ac ((n.cell (p:=⟨e,0,br⟩) F).trans o) (H.below n)) belowK_t (belowK_b ac) (aoK _ _) (λ_=>rfl) (λc d=>(∃b,Boxed d a.heap.size 23 b/\d.ownsRow a.heap.size 3 1 b c.length (c.map (amJ .i64))/\(b=.slice br 0 0↔c=[]))/\Below a.heap.size a d) (λ_ _ _=>b7) (OwnFrom.and (Own.from (holdsRow_own a.heap.size a.heap.size 23 3 1 (λc=>c.length) (λc=>c.map (amJ .i64)) (λc b=>b=.slice br 0 0↔c=[])) _) (ownFrom_below (bf _) ac)) (λ_ _ _ _ _ N _ _=>N) ⟨⟨_,A,World.ownsRow_nil _ _ _ _,ac⟩,n⟩ (λj=>{tmps:=#[.slice br 0 0,.func (.func 323) #[] #[.pointer (Y ⟨e,0,br⟩)],.pointer (Y ⟨a.heap.size,0,br⟩),bY,.slice br 0 0,.int .i64 j,.func (.func 323) #[] #[.pointer (Y ⟨e,0,br⟩)],.int .i64 j,bY,bY,bY,bY,bY],defers:=[]}) ?assign ?body ?done ?stop
 case assign=>
  intro T j d U i
  gi_wp2
  exact i
 case body=>
  rintro T c j d ⟨⟨b,l,k,x⟩,h⟩ a3;have o:=l.cell;have a0:f.length<=maxLen:=(by simp only[maxLen];omega);have an:f.length*8<=140737488355328:=by omega
  gi_wp2_with (gi_at_builtin;refine wpListIn_append_own _ rfl _ _ 23 bq a.heap.size 3 S (.int .i64 0) 1 8 aro J P Q R bq ab _ _ _ rfl (k.alloc _) ⟨d.heap.size,0,br⟩ 1 1 [.int .i64 j] rfl rfl (cell_one_new _ _ _) (by simp[amQ]) aa aa (by have:=h.size;simp;omega) ?_;intro bl bs y I _;obtain⟨am,ad,rfl⟩:=ownsRow_succ y;obtain⟨z,O,L,K,v⟩:=l.appended ab k h.size (bf _) y I;have ap:=z.cell;have av:=z.frozen)
  exact⟨K.from _,v,⟨_,O,by simpa using L,ac⟩,h.trans v⟩
 case done=>
  rintro s bx d G rfl ⟨⟨b,l,k,x⟩,h⟩ i;have o:=l.cell
  gi_wp2
  refine⟨ac,.inl ⟨_,_,bq,run_takeDeferred i,?_⟩⟩;exact⟨_,results_tmp bq _ _ _,b,bq,ownsRow_putObj k _ i bq,x,h.trans (belowK_b (w:=a) (bf _) d s _ _ (by simp at G;omega) i bq rfl)⟩
 case stop=>
  rintro s V c d _ _ C _;exact C.elim
set_option maxHeartbeats 1000000 in
def Xg (b:anC) (f:X) (m:b.fn 321) (k:b.fn 332) (l:b.fn 323) (j:b.round=br) (v:4<=f) (e:X) (g:Value) (c:amv) (s:c.length*8<=140737488351232) (a:bF) (n:e<a.heap.size) (q:a.cell? ⟨e,0,br⟩=Y g) (o:qr a.heap.size a g c):anr b f ct 321 #[.func (.func 323) #[] #[.pointer (Y ⟨e,0,br⟩)]] a λi h=>∃d,i=.returned d/\h.ownsRow a.heap.size 3 1 d c.length (c.map (amJ .i64))/\(d=.slice br 0 0↔c=[])/\Below a.heap.size a h:=by
 have u:1<=f:=aa;refine aok Tryz.func321 bq m ?_ j;simp only[Tryz.ntmps321,vg,iK,qC,amC,anD,xa,xb,xp,xm,h3,kR]
 gi_wp2_with (gi_at_call 332;refine(Wh b (f-1) k l j aa e g c s _ n q o).mono ?_;rintro i w ⟨d,rfl,t,r,p⟩)
 go_ret
 exact⟨d,bq,t,r,p⟩
open Go.j5
theorem agl {M:eM->X->Prop} {f:bF} {k:X} {j:Value} {b:amv} (s:f.ownsRow k 3 1 j b.length (b.map (amJ .i64))):∃d,aW M f (.osl (.int .i64)) [j] b d/\d.Nodup/\∀h∈d,k<=h/\h<f.heap.size:=by
 rcases s.2 with⟨rfl,t⟩|⟨e,l,i,rfl,w,q,u,A,v,m⟩
 ·obtain rfl:=qv t;exact⟨[],⟨br,0,bq,.inl ⟨bq,bq,bq,bq⟩⟩,ac,ac⟩
 rw[aoc] at v m;have o:∀a,a<l->f.cell? ⟨e,a,br⟩=Y (i[a]?.getD bY)/\f.frozen? ⟨e,a,br⟩=bu:=λa c=>(by constructor<;>simp[anR,ao5,q,(aa:a<i.size)]);refine⟨[e],⟨Y ⟨e,0,br⟩,l,bq,.inr ⟨e,0,bM b.length [],bq,ac,ac,u,λa _ c=>?_,λg z d r p=>?_⟩⟩,ac,λh n=>?_⟩
 ·obtain⟨aB,y⟩:=o a (by simpa[amW] using c);exact⟨by rw[aB];rfl,y⟩
 ·have x:g<b.length:=(iv.1 r).1;obtain rfl:d=[]:=by
   rw[List.getElem?_replicate] at p;split at p<;>simp_all
  refine⟨[.int .i64 z],bq,λa j c=>?_,bq,bq⟩;cases a with
  |succ a=>simp at c
  |zero=>
   simp only[rR,e9] at c;subst c;simp only[amW,aoc,l3,m4];rw[(o g aa).1];have:(i.toList.take b.length)[g]?=(b.map (amJ .i64))[g]?:=(by rw[m]);rw[te x,CR,jv,r] at this;rw[this];rfl
 simp only[gI] at n;subst n;exact⟨w,(s7.1 q).1⟩
def Zq {o:eM->X->Prop} {n:bF} {i:Value} {a:amv} {k:amu} (g:aW o n (.osl (.int .i64)) [i] a k):(∃j b,i=.slice j 0 b/\a=[])\/∃c e b,i=.slice (Y ⟨c,e,br⟩) a.length b/\a.length<=b/\Holds (amJ .i64) n c e a.toArray/\k=[c]:=by
 obtain⟨j,b,m,g⟩:=g;simp only[ij,cf] at m;subst m;rcases g with⟨rfl,rfl,rfl,rfl⟩|⟨c,e,f,rfl,rfl,z,r,s,l⟩
 ·exact .inl ⟨br,0,bq,bq⟩
 right;have t:f.flatten=[]:=by
  rw[List.flatten_eq_nil_iff];intro B w;obtain⟨h,A,rfl⟩:=hN.1 w;obtain⟨q,_,_,x⟩:=l h (a[h]'(by omega)) f[h] ac ac
  exact x.1
 refine⟨c,e,b,bq,r,λd u=>?_,by rw[t]⟩;have v:d<a.length:=(by simpa using u);obtain⟨q,y,p,_,d3⟩:=l d a[d] (f[d]'(by omega)) ac ac
 subst d3;have aB:=p 0 _ rfl;simp only[amW,aoc,m4] at aB;exact⟨by rw[aB];simp[v],(s (e+d) aa (by simp only[amW];omega)).2⟩
def HX (E:fP) (c:amv->eu):Prop:=∀b a,c b=Y a->s9 E 322 [.m ⟨.osl (.int .i64),b⟩ a] []
set_option maxRecDepth 100000 in
set_option maxHeartbeats 2000000 in
def ahl (i:anC) (h:∀e,i.fn e) (z:i.round=br) (N:∀(an:X) (e:FuncId) (v:eB) (c:bF) (t:Ending->bF->Prop),Calls ct e v c t->anr i an ct e v c t) {E:fP} (H:E.P=ct) {B:amv->eu} (ad:HX E B) (k:X) (a3:5<=k) (m:X) (r:Value) (l s:amv) (am:B l=Y s) (U:l.length*8<=140737488351232) (c:bF) (I:lY E (λb=>b<c.heap.size) c) (G:m<c.heap.size) (L:c.cell? ⟨m,0,br⟩=Y r) (J:qr c.heap.size c r l):anr i k ct 300 #[.func (.func 323) #[] #[.pointer (Y ⟨m,0,br⟩)]] c λp u=>∃g e C,p=.returned g/\aW C u (.osl (.int .i64)) [g] s e/\(∀b∈e,c.heap.size<=b)/\Below c.heap.size c u:=by
 have a0:1<=k:=aa;have a4:=h 321;have bl:=h 322;refine aok Tryz.func300 bq (h _) ?_ z;simp only[Tryz.ntmps300,vg,iK,qC,amC,anD,xa,xb,xp,xm,h3,kR]
 gi_wp2_with (first
  |(
   gi_at_call 321;refine(Xg i (k-1) (h _) (h _) (h _) z aa m r l U _ G L J).mono ?_;rintro p D ⟨g,rfl,A,S,d⟩
   obtain⟨e,T,R,o⟩:=agl (M:=bi (λ_=>b7) (λ_=>b7)) A;have n:=ad l s am D (λb=>b<c.heap.size) (λ_=>b7) [g] [e] (λb a=>by rcases a with a|a;exact jS a d.size;exact a.elim) ⟨⟨[g],bq,T⟩,trivial⟩ (by simpa using R) (λb d=>⟨Nat.not_lt.2 (o b (by simpa using d)).1,λa=>a,(o b (by simpa using d)).2⟩) True.intro (I.mono (λ_ a=>a) λb a=>d.block b a);rw[H] at n;have n:=N (k-1) _ _ _ _ n;clear A S)
  |(gi_at_call 322;refine n.mono ?_;rintro p av ⟨ap,w,bs,cF,rfl,f⟩))
 have O:∃j,w=[j]:=by
  have:=f.args
  match w,this with
  |[j],_=>exact⟨j,bq⟩
  |[],a=>exact a.elim
  |_::_::_,a=>exact a.2.elim
 obtain⟨j,rfl⟩:=O;obtain⟨cs,ar,y⟩:=f.args.1;have Q:=y.len;obtain⟨F,rfl⟩:=qB.1 Q;have ar:g=F:=ar;subst ar;have V:cF=[]:=by
  have:=f.res
  match cF,this with
  |[],_=>rfl
  |_::_,a=>exact a.elim
 subst V
 go_ret
 refine⟨g,j,_,bq,y,λb K=>?_,?_⟩
 ·have:=(f.N5 b (by simp[K])).2.2.2;rcases this with a|a
  ·exact eE d.size a
  exact(o b (by simpa using a)).1
 exact⟨f.os.trans d.os,f.tape.trans d.tape,f.output.trans d.output,eE d.size f.size,λq x=>(f.heap q (jS x d.size) (λa=>by have:=(o q (by simpa using a)).1;omega)).trans (d.block q x)⟩
def Xn {j:eM->X->Prop} {b:bF} {B:X} {i:Value} {e:amv} {h:amu} (n:aW j b (.osl (.int .i64)) [i] e h) (m:∀c∈h,B<=c) (r:e.length<=1000000):Calls ct 299 #[i] b (λf g=>∃d a,f=.returned (.slice d (anq e).length a)/\Below B b g):=by
 rcases Zq n with⟨d,a,rfl,rfl⟩|⟨c,p,a,rfl,l,k,rfl⟩
 ·refine(Any.slices_Compact_int_empty Tryz.Qr d a b).mono ?_;rintro f g ⟨rfl,rfl⟩;exact⟨d,a,bq,aoK _ _⟩
 refine(Any.slices_Compact_int Tryz.Qr c p a e b k aa l).mono ?_;rintro f g ⟨rfl,s,rfl⟩;refine⟨_,a,bq,bq,bq,bq,by simp[putRow,mapBlock,ars],λo q=>?_⟩;have:=m c ac;simp[putRow,mapBlock,ars,Array.getElem?_modify,(aa:c≠o)]
set_option maxRecDepth 100000 in
set_option maxHeartbeats 2000000 in
def ah1 (g:anC) (i:∀k,g.fn k) (p:g.round=br) (t:∀(S:X) (k:FuncId) (r:eB) (a:bF) (q:Ending->bF->Prop),Calls ct k r a q->anr g S ct k r a q) {E:fP} (F:E.P=ct) {x:amv->eu} (O:HX E x) (j:X) (av:7<=j) (c:bv ck) (b e:X) (f m:amv) (R:x f=Y m) (N:f.length=b) (bl:f.length<=1000000) (Q:m.length<=1000000) (a:bF) (G:lY E (λd=>d<a.heap.size) a) (H:qr a.heap.size a (.slice c b e) f):anr g j ct 245 #[.slice c b e] a λh z=>h=.returned (.bool (bw ((anq m).length<f.length)))/\Below a.heap.size a z:=by
 have ap:1<=j:=aa;have a0:=i 301;have a3:=i 300;have a4:=i 299;generalize M:(anq m).length=an;refine aok Tryz.func245 bq (i _) ?_ p;simp only[Tryz.ntmps245,vg,iK,qC,amC,anD,xa,xb,xp,xm,h3,kR];have C:=arq a 23 (.slice c b e);have n:Below a.heap.size a (a.alloc (.cells #[.slice c b e] 23)):=(aoK _ a).alloc (bf _) _;have I:qr (a.alloc (.cells #[.slice c b e] 23)).heap.size (a.alloc (.cells #[.slice c b e] 23)) (.slice c b e) f:=by
  rcases H.below n with l|⟨d,T,D,h,o,L⟩
  ·exact .inl l
  exact .inr ⟨d,T,D,h,by simp;omega,L⟩
 have w:=ahl g i p t F O (j-1) aa a.heap.size (.slice c b e) f m R aa _ (G.mono (λd (l:d<a.heap.size)=>jS l n.size) λd l=>n.block d l) ac C.cell I
 gi_wp2_with (first
  |(gi_at_call 301;refine(air g (j-1) (i _) p c b e a).mono ?_;rintro h bx ⟨rfl,rfl⟩)
  |(gi_at_call 300;refine w.mono ?_;rintro h y ⟨bs,k,U,rfl,v,u,o⟩;have s:=t (j-1) _ _ _ _ (Xn (B:=a.heap.size) v (λd J=>by have:=u d J;simp at this;omega) Q);rw[M] at s;have A:Below a.heap.size a y:=n.trans (o.mono ac);clear v u o w)
  |(gi_at_call 299;refine s.mono ?_;rintro h V ⟨ad,am,rfl,K⟩))
 go_ret
 exact⟨by rw[N];rfl,A.trans K⟩
def ahY (c:amv->eu):jO:=⟨245,[.v (.bc .cX (.int .i64))],[.bool],λa=>(CE c a.1).map λb=>(b,())⟩
def ahZ {E:fP} (q:E.P=ct) {sort:amv->eu} (J:HX E sort):aH E (ahY sort):=by
 refine⟨λg f=>by rw[q];exact Tryz.call245 g f,?_⟩;rintro⟨d,_⟩ b c;have w:(CE sort d).map (λb=>(b,()))=Y b:=c;obtain⟨B,e,rfl⟩:=fQ.1 w;clear c w;unfold CE at e;cases l:b5 d.length 1000000 with
 |false=>rw[l] at e;cases e
 |true=>
 rw[l] at e;obtain⟨s,L,e⟩:=e3.1 e;cases m:b5 s.length 1000000 with
 |false=>rw[m] at e;cases e
 |true=>
 rw[m] at e;have c:bw ((anq s).length<d.length)=B:=gn e;subst c;have l:=ha l;have m:=ha m;rintro f t A g k u h ad V _hself;have h:m9 (zx t A f) [.v ⟨.bc .cX (.int .i64),d⟩] g k:=h;obtain⟨p,j,rfl,rfl⟩:∃p j,g=[p]/\k=[j]:=by
  cases g with
  |nil=>exact h.elim
  |cons p g=>
   cases k with
   |nil=>exact h.elim
   |cons j k=>
    have a:=h.2;cases g with
    |nil=>cases k with
     |nil=>exact⟨p,j,bq,bq⟩
     |cons=>exact a.elim
    |cons=>exact a.elim
 obtain⟨⟨rfl,cs,rfl,I⟩,_⟩:=h;obtain⟨_,o,i,rfl,U,am,H⟩:=I;have F:qr f.heap.size f (.slice o d.length i) d:=by
  rcases H with a|⟨b,N,rfl,G,K⟩
  ·exact .inl ⟨o,i,by rw[show d=[] from a];rfl,a⟩
  refine .inr ⟨b,N,i,bq,u b G,λy x=>?_⟩;obtain⟨S,R,C,_,d3⟩:=K y d[y] (by simp[x]);subst d3;have z:=C 0 _ rfl;simp only[amW,aoc,m4] at z;rw[z];simp[x]
 intro D;have a:=ah1 Fence.wide (λ_=>trivial) rfl (λM j Q f O a=>(callsIn_wide (n:=M)).2 a) q J 10 aa o d.length i d s L bq l m f (D.mono (λb a=>u b (.inl a)) λ_ _=>rfl) F;have a:=callsIn_wide.1 a;show Calls E.P 245 #[.slice o d.length i] f _;rw[q];refine a.mono ?_;rintro T an ⟨rfl,c⟩;refine⟨t,[[]],[[]],[.bool _],bq,⟨⟨bq,trivial⟩,⟨⟨[.bool _],bq,bq,bq⟩,trivial⟩,ac,ac,λ_ a=>a,λ_ a=>.inl a,c.size,c.os,c.tape,c.output,λb r=>.of_heap (c.block b r),λb r _=>c.block b r⟩⟩
end Nm
end Go.Proofs
end
namespace Go.j5
variable{a:X}{b:amv}{c:bp hB}{d:bp ak}{e:Z}{f:Type}{g:Value}{h:bF}{i:bp amB}{j:eM->X->Prop}{k:Func}{l:X->Prop}
section
open Go.Proofs
open Tryz
abbrev gp:ak:=(.int .u32)
abbrev gz:ak:=(.bc .bm gp)
abbrev dc:ak:=(.st (.pr .bool (.pr gz .nil)))
abbrev aC:ak:=(.int .i64)
abbrev cQ:ak:=(.st (.pr .bool (.pr dc (.pr aC .nil))))
abbrev df:ak:=(.int .u64)
abbrev eP:ak:=(.bc .cX aC)
abbrev g2:ak:=(.bc .cX df)
abbrev iz:ak:=(.st (.pr aC (.pr aC (.pr eP (.pr eP (.pr g2 .nil))))))
abbrev gO:ak:=(.bc .bm aC)
abbrev m6:ak:=(.bc .bm df)
abbrev l5:ak:=(.pr gO (.pr m6 .nil))
abbrev pR:ak:=(.st (.pr (.bc .bm gO) .nil))
abbrev xC:ak:=(.st (.pr aC (.pr pR (.pr (.bc .bm (.fd .bm cQ)) .nil))))
abbrev hm:ak:=(.osl aC)
abbrev oa:ak:=(.osl df)
abbrev Dg:ak:=(.st (.pr (.ptr .bm xC) (.pr hm (.pr hm (.pr oa (.pr (.osl (.st l5)) (.pr aC .nil)))))))
abbrev z1:ak:=(.osl .bool)
abbrev pS:ak:=(.osl cQ)
abbrev nH:ak:=(.osl pS)
abbrev ts:ak:=(.optr (.st (.pr hm (.pr aC (.pr z1 (.pr nH .nil))))))
abbrev o2:ak:=(.st (.pr aC (.pr aC (.pr df .nil))))
abbrev tp:ak:=(.pr hm (.pr oa .nil))
abbrev r2:ak:=(.st (.pr eP (.pr g2 .nil)))
abbrev qL:ak:=(.ptr .cX (.st (.pr iz (.pr eP (.pr eP (.pr eP (.pr (.bc .cX (.fd .cX cQ)) (.pr (.bc .cX r2) (.pr (.bc .cX r2) .nil)))))))))
abbrev HY:ak:=(.st (.pr hm (.pr gO (.pr m6 (.pr hm (.pr hm (.pr oa (.pr aC .nil))))))))
abbrev lg:ak:=(.ptr .cX (.st (.pr eP (.pr aC (.pr (.bc .cX .bool) (.pr (.bc .cX (.bc .cX cQ)) .nil))))))
abbrev pP:ak:=(.st (.pr aC (.pr aC (.pr gO l5))))
abbrev qM:ak:=(.st (.pr eP (.pr eP (.pr g2 (.pr eP (.pr eP (.pr g2 (.pr aC .nil))))))))
abbrev pQ:ak:=(.st (.pr aC (.pr aC (.pr eP (.pr aC .nil)))))
abbrev tq:ak:=(.st (.pr eP (.pr eP (.pr eP (.pr eP (.pr g2 (.pr eP (.pr eP (.pr g2 .nil)))))))))
abbrev HZ:ak:=(.st (.pr pP (.pr hm (.pr hm (.pr hm (.pr (.osl (.mp cQ)) (.pr (.osl (.st l5)) (.pr (.osl (.st l5)) .nil))))))))
abbrev mC:ak:=(.st (.pr aC (.pr aC (.pr pS .nil))))
abbrev No:ak:=(.osl (.st (.pr aC (.pr aC (.pr hm (.pr aC .nil))))))
abbrev C8:ak:=(.st (.pr aC (.pr aC (.pr hm tp))))
abbrev l4:ak:=(.st (.pr df (.pr df .nil)))
abbrev xB:ak:=(.osl z1)
abbrev mD:ak:=(.st (.pr (.bc .cX eP) .nil))
abbrev C9:ak:=(.st (.pr gO (.pr gO (.pr gO (.pr gO (.pr m6 (.pr gO l5)))))))
abbrev Da:ak:=(.st (.pr gO (.pr gO (.pr m6 (.pr gO (.pr gO (.pr m6 (.pr aC .nil))))))))
abbrev zZ:ak:=(.st (.pr aC (.pr aC (.pr aC .nil))))
abbrev lh:ak:=(.bc .bm cQ)
abbrev Db:ak:=(.st (.pr (.st (.pr aC (.pr aC (.pr m6 .nil)))) (.pr m6 .nil)))
abbrev r1:ak:=(.st (.pr .bool (.pr dc (.pr aC (.pr .bool .nil)))))
abbrev tr:ak:=(.st (.pr aC (.pr cQ (.pr df .nil))))
abbrev Dc:ak:=(.ptr .bm (.st (.pr gO (.pr aC (.pr (.bc .bm .bool) (.pr (.bc .bm lh) .nil))))))
abbrev Dd:ak:=(.st (.pr (.osl gO) .nil))
abbrev nI:ak:=(.osl gp)
abbrev VJ:ak:=(.optr cQ)
abbrev VK:ak:=(.optr dc)
abbrev H0:ak:=(.st (.pr aC (.pr aC (.pr oa .nil))))
abbrev qN:ak:=(.osl o2)
abbrev VL:ak:=(.ptr .bm dc)
abbrev Np:ak:=(.optr (.st tp))
abbrev VM:ak:=(.optr (.st (.pr aC (.pr pR (.pr (.osl (.mp cQ)) .nil)))))
abbrev H1:ak:=(.optr (.st (.pr xB (.pr z1 .nil))))
abbrev H2:ak:=(.osl (.osl dc))
abbrev Nq:ak:=(.ptr .bm cQ)
abbrev VN:ak:=(.ptr .bm iz)
abbrev De:ak:=(.st (.pr (.mp lh) .nil))
abbrev H3:ak:=(.st (.pr aC (.pr aC (.pr lh .nil))))
abbrev qO:ak:=(.bc .cX (.bc .cX dc))
abbrev Df:ak:=(.ptr .bm mD)
abbrev z2:ak:=(.st (.pr aC (.pr aC (.pr g2 .nil))))
abbrev VO:ak:=(.optr pP)
abbrev VP:ak:=(.optr C8)
abbrev nJ:ak:=(.bc .cX pQ)
abbrev r3:ak:=(.bc .bm (.st l5))
def tt:bp (X×ak):=[(3,aC),(4,.bool),(5,(.int .u8)),(9,.str),(22,m6),(23,gO),(26,m6),(28,pP),(31,(.bc .bm (.st (.pr aC (.pr aC (.pr gO (.pr aC .nil))))))),(34,Da),(38,gz),(40,dc),(42,cQ),(46,zZ),(50,df),(51,df),(54,(.bc .bm l4)),(56,(.st (.pr aC (.pr aC (.pr m6 .nil))))),(58,Db),(65,l4),(67,df),(68,(.bc .bm o2)),(72,o2),(77,(.bc .bm gO)),(79,pR),(85,(.bc .bm (.bc .bm .bool))),(87,(.st (.pr aC (.pr aC (.pr gO (.pr aC .nil)))))),(88,(.bc .bm .bool)),(93,(.bc .bm (.fd .bm cQ))),(95,xC),(99,r3),(101,(.st (.pr (.ptr .bm xC) (.pr gO (.pr gO (.pr m6 (.pr r3 (.pr aC .nil)))))))),(102,(.bc .bm (.bc .bm Dc))),(103,Dc),(106,(.bc .bm Dc)),(110,lh),(112,H3),(121,(.bc .bm lh)),(128,(.bc .bm (.bc .bm dc))),(135,C9),(150,gp),(164,(.fd .bm cQ)),(171,(.st (.pr gO (.pr aC (.pr (.bc .bm .bool) (.pr (.bc .bm lh) .nil)))))),(180,(.st l5)),(185,(.bc .bm m6)),(199,(.bc .bm dc)),(208,(.ptr .bm (.st (.pr pP (.pr gO (.pr gO (.pr gO (.pr (.bc .bm (.fd .bm cQ)) (.pr r3 (.pr r3 .nil)))))))))),(209,r3),(211,(.st (.pr pP (.pr gO (.pr gO (.pr gO (.pr (.bc .bm (.fd .bm cQ)) (.pr r3 (.pr r3 .nil))))))))),(219,(.bc .bm l4)),(223,l4),(236,(.st (.pr (.bc .bm (.bc .bm .bool)) (.pr (.bc .bm .bool) .nil)))),(237,(.bc .bm (.bc .bm .bool))),(265,(.fd .bm lh)),(267,(.st (.pr (.fd .bm lh) .nil))),(270,(.st l5)),(274,(.bc .bm tr)),(279,tr),(285,(.bc .bm lh)),(298,r1),(317,(.fn 0 .nil)),(360,df)]
def Ut:∀a b,ax tt a=Y b->fD ct b a:=Uu (by kernel_rfl)
def E:fP:={P:=ct,tt:=tt,ok:=Ut,mix:=by kernel_rfl,glob:=[⟨0,345,.u8,qW⟩],gok:=Zd Ut (S:=5) (by kernel_rfl) (by kernel_rfl),eqs:=[46],eqok:=Po (by kernel_rfl)}
def zt:bp ak:=[hm,VJ,cQ,VK,.bool,dc,nI,pS,qN,nH,xB,oa,df,VL,ts,Np,VN,z1,Nq,VO,VP,H2,No,(.osl dc),(.optr Dd),(.optr HY),(.osl l4),(.optr Dg),gz,(.optr pR),Df,(.st tp),gO,(.osl lh),(.optr zZ),(.optr HZ),pR,(.mp cQ),(.osl g2),m6,(.optr mC),(.optr C9),(.ptr .bm tq),(.osl (.bc .bm dc)),pP,VM,(.ptr .bm pQ),(.optr hm),(.ptr .bm qM),(.optr De),H0,lh,zZ,C8,H1,(.optr iz),(.optr nH),(.osl tr),(.osl gO),(.optr gO),mC,(.ptr .bm r1),tr,aC,(.optr H0),l4,Dd,(.st l5),(.optr Da),(.osl (.osl Dc)),(.optr H3),De,(.optr r2),C9,(.ptr .bm l4),(.optr Db),Db,o2,(.optr df),(.optr pQ),(.ptr .bm aC),(.optr (.st l5)),HY,gp,r1,(.optr tr),(.osl (.mp cQ)),(.optr l4),(.bc .bm l4),(.ptr .bm z2),(.bc .bm o2),(.ptr .bm o2),(.optr aC),pQ,(.ptr .bm .nil),(.osl (.st l5)),r3,Da,H3,(.mp lh),(.bc .bm tr),r2,(.ptr .bm qL),HZ,(.ptr .bm (.st (.pr z2 (.pr g2 .nil)))),(.bc .bm dc),(.bc .bm (.bc .bm .bool)),(.st (.pr aC (.pr aC (.pr hm (.pr aC .nil))))),(.bc .bm gO),(.ptr .bm xC),(.ptr .bm nJ),(.st (.pr hm (.pr aC (.pr z1 (.pr nH .nil))))),Dg,(.bc .bm (.st (.pr aC (.pr aC (.pr gO (.pr aC .nil))))))]
def aL {sem:hJ c->bv (jd c (lR d))} (h:xA E) (e:X) (g:E.P.funcs[a]?=Y k) (f:(k.body.isSome&&b5 c.length k.ntmps)=bt:=by kernel_rfl) (j:(k.name=="runtime.NumGoroutine")=bu:=by kernel_rfl) (i:∀b,yA ⟨E.tt,h.1,(ze zt e).2.1,k.ntmps,kp 0 c++nU (jJ 0 c),[],(ze zt e).2.2,jJ 0 c,[],[],E.glob,E.eqs⟩ ((ze zt e).1.ex (k.body.getD .skip)) (k.body.getD .skip) c k.results.toList d b=sem b:=by intro b;kernel_rfl):aH E ⟨a,c,d,sem⟩:=
 aH.q h _ g (WT g j (by have:=f;simp only[cJ] at this;exact this.1)) _ _ f i
noncomputable def fh {a:Func} (e:xA E) (c:X) (d:X) (j:E.P.funcs[d]?=Y a) (b:bp hB) (f:bp ak) (i:(a.body.isSome&&b5 b.length a.ntmps)=bt:=by kernel_rfl) (k:(a.name=="runtime.NumGoroutine")=bu:=by kernel_rfl):{g:jO//aH E g}:=
 ⟨⟨d,b,f,λh=>yA ⟨E.tt,e.1,(ze zt c).2.1,a.ntmps,kp 0 b++nU (jJ 0 b),[],(ze zt c).2.2,jJ 0 b,[],[],E.glob,E.eqs⟩ ((ze zt c).1.ex (a.body.getD .skip)) (a.body.getD .skip) b a.results.toList f h⟩,aL e c j i k λ_=>rfl⟩
def abH:aH E ⟨123,[.v aC,.v aC,.v aC],[.bool],EB⟩:=aL aF 0x2860d func123
def RR:aH E ⟨183,[.v aC],[.bool],tG⟩:=aL aF 0xd func183
def Lq:aH E ⟨172,[.v aC,.v aC],[.bool],vK⟩:=aL (aj RR aF) 0x60d func172
def acd:aH E ⟨200,[.v eP],[.bool],EJ⟩:=aL (aj Lq aF) 0x30a5214c0d func200
def abI:aH E ⟨124,[.v iz],[.bool],Ez⟩:=aL (aj acd aF) 0x89168401d66b93f29e80930b3bf78f127d54e40fbd6eac4b248cdff8c5060d1e00b4c0d func124
def Ln:aH E ⟨143,[.v df],[aC,df],xV⟩:=aL aF 0xd func143
def ml:aH E ⟨99,[.v df],[.bool],pa⟩:=aL (aj Ln aF) 0xd func99
def abK:aH E ⟨126,[.v df],[.bool],I3⟩:=aL (aj ml aF) 0xd func126
def ace:aH E ⟨201,[.v g2,.c 126 []],[aC],I5⟩:=aL (aj abK aF) 0x3195177853060d func201
def abJ:aH E ⟨125,[.v g2,.c 126 []],[.bool],EC⟩:=aL (aj ace aF) 0x60d func125
def uK:aH E ⟨49,[.v iz],[aC],sh⟩:=aL (aj abI (aj abH (aj abJ aF))) 0x4836004a0a7b34c0d func49
def aeX:=fh (aj ml aF) 0xd 127 func127 [.v df] [.bool]
def ae9:=fh (aj aeX.2 aF) 0x3195177853060d 201 func201 [.v g2,.c 127 []] [aC]
def aeW:=fh (aj ae9.2 aF) 0x60d 125 func125 [.v g2,.c 127 []] [.bool]
def afF:=fh (aj aeW.2 aF) 0xd 50 func50 [.v g2] [.bool]
def SO:=fh aF 0xb06580ade0c0be8a8facb43ee61b38712f92f31e14db060d 128 func128 [.v eP,.v aC] [.bool]
def mO:aH E ⟨194,[.v gz],[gz],i6⟩:=aL aF 0x1a28f318a51a6c0d func194
def uJ:aH E ⟨188,[.v .bool,.v gz],[dc],mJ⟩:=aL (aj mO aF) 0x29200d func188
def B1:aH E ⟨106,[.v aC],[dc],sf⟩:=aL (aj uJ aF) 0xdf53cf0093e45733a6c0d func106
def RE:aH E ⟨144,[.v df],[.bool],DW⟩:=aL aF 0xd func144
def Gt:aH E ⟨192,[.v gz],[nI],x9⟩:=(aL (sem:=Ao) aF 0x30a00d func192).Dw IF
def Gq:aH E ⟨145,[.v dc],[dc],sg⟩:=aL (aj Gt (aj uJ aF)) 0x13f01e97102519c156f0411e77d3fefac0dd4c0d func145
def B4:aH E ⟨184,[],[cQ],vL⟩:=aL aF 0x408 func184
def Lm:aH E ⟨121,[.v dc],[dc],tM⟩:=aL (aj Gt (aj uJ aF)) 0x2e8f7a3d8062ef58df4abe5f9207950cadd4c0d func121
def wE:aH E ⟨114,[.v dc],[aC],oj⟩:=aL (aj mO aF) 0x68600d func114
def wm (a:Z):g9:=⟨E.tt,[],[],14,[0]++(kp 0 [.v gp]++nU (jJ 0 [.v gp])),[(0,.val gp a)]++[],[],jJ 0 [.v gp],[],[],E.glob,E.eqs⟩
noncomputable def uq:Code:=Tryz.f233.body.getD .skip
def wo:bW Oper:=(wO 3 uq).getD #[]
def Kt:m1:=.two .none (.leaf) (.two .none (.two .none (.leaf) (.leaf)) (.leaf))
def F2:m1:=.keep [0] (.two .none (.leaf) (.two .none Kt (.two .none (.leaf) (.leaf))))
def yF (a:Z):aR:=⟨[(4,.val .bool (a==0)),(3,.val gp a),(2,.val aC 0),(0,.val gp a)],[]⟩
def Ks (a:Z):b8->aR->bv (jd [.v gp] (lR [.int .i64])):=PA E.tt [.v gp] [.tmp 2] [.int .i64] (a,())
def ZX:uq=.seq (G3 uq) (.seq (G3 (TN uq)) (.seq (.region 3 wo bu) .ret)):=by kernel_rfl
def Z0:wo.size=10:=by kernel_rfl
def ZY (a:Z) (b:b8->aR->bv f) (c:aR->bv f):h6 (wm a) .leaf (G3 uq) ⟨[(0,.val gp a)],[]⟩ f (Cr (λd=>h6 (wm a) Kt (G3 (TN uq)) d f (Cr c b)) b)=bif a==0 then b .ret ⟨(2,.val aC 32)::(yF a).g,[]⟩ else c (yF a):=by kernel_rfl
def ZU (a:Z) (b:aR->bv f):lN (wm a) wo [0,1,2,3,4] (yF a) b=b ⟨(9,.val gp (ch.wrap (fo ch a (ch.wrap (0-a))*125613361)))::(8,.val gp (fo ch a (ch.wrap (0-a))))::(7,.val gp (ch.wrap (0-a)))::(6,.val gp a)::(5,.val gp a)::(yF a).g,[]⟩:=by kernel_rfl
def ZV (a c d b:Z):lN (wm a) wo [5,6,7,8,9] ⟨(9,.val gp b)::(8,.val gp c)::(7,.val gp d)::(6,.val gp a)::(5,.val gp a)::(yF a).g,[]⟩ (Ks a .ret)=(e8 ch b 27).bind λe=>(az qW e).bind λf=>Y (bN.wrap f,()):=by kernel_rfl
def Z1 (a:Z):Ks a .ret ⟨(2,.val aC 32)::(yF a).g,[]⟩=Y ((32:Z),()):=by kernel_rfl
def ZZ (a:Z) (c:hJ [.v gp]) (e g:cx) (b:b8->aR->bv f) (h:c=(a,())):h6 ⟨E.tt,[],[],14,kp 0 [.v gp]++nU (jJ 0 [.v gp]),[],[],jJ 0 [.v gp],[],[],E.glob,E.eqs⟩ F2 (.seq e (.seq g (.seq (.region 3 wo bu) .ret))) ⟨od 0 [.v gp] c,oe 0 [.v gp] c⟩ f b=h6 (wm a) .leaf e ⟨[(0,.val gp a)],[]⟩ f (Cr (λd=>h6 (wm a) Kt g d f (Cr (λd=>lN (wm a) wo (bK wo.size) d (b .ret)) b)) b):=by subst h;rfl
def ZW (b:hJ [.v gp]):yA ⟨E.tt,[],[],14,kp 0 [.v gp]++nU (jJ 0 [.v gp]),[],[],jJ 0 [.v gp],[],[],E.glob,E.eqs⟩ F2 uq [.v gp] [.tmp 2] [.int .i64] b=x6 b:=by obtain⟨a,⟨⟩⟩:=b;show h6 _ F2 uq _ _ (Ks a)=_;rw[ZX,ZZ a _ _ _ _ rfl,ZY,Z0,show bK 10=[0,1,2,3,4]++[5,6,7,8,9] from rfl,Kc,ZU,ZV,Z1];exact Eq.refl (bif a==(0:Z) then Y ((32:Z),()) else(e8 ch (ch.wrap (fo ch a (ch.wrap (0-a))*125613361)) 27).bind λc=>(az qW c).bind λd=>Y (bN.wrap d,()))
def Vc:jO:=⟨233,[.v gp],[aC],x6⟩
def R0:aH E Vc:=
 aH.of (fn:=Tryz.f233) (rs:=[.tmp 2]) [] [] [] F2 func233 (by kernel_rfl) (by kernel_rfl) (by kernel_rfl) call233 Ui (by intro a;exact ZW a)
def RT:aH E ⟨189,[.v dc],[aC],AH⟩:=aL (aj R0 aF) 0x1d5b00319516d1e14c0d func189
def Lv:aH E ⟨235,[.v gp],[aC],x5⟩:=aL aF 0x2b3db85dc039a7a07d3 func235
def acG:aH E ⟨269,[.v gz],[aC],AK⟩:=aL (aj Lv aF) 0xd func269
def Gs:aH E ⟨190,[.v dc],[aC],tL⟩:=aL (aj acG (aj mO aF)) 0x68600d func190
def Sa:aH E ⟨274,[.v gz,.v aC],[gz],x1⟩:=aL (aj mO aF) 0x5b561a988704004695c91aca8599e2f0a6db060d func274
def ac9:aH E ⟨313,[.v gp],[.bool],IV⟩:=aL aF 0xd func313
def adm:aH E ⟨328,[.v gz,.c 313 []],[aC],I9⟩:=aL (aj ac9 aF) 0x3195177853060d func328
def ac8:aH E ⟨312,[.v gz,.c 313 []],[.bool],AU⟩:=aL (aj adm aF) 0x60d func312
def Sb:aH E ⟨275,[.v gz,.v aC],[gz,.bool],AJ⟩:=aL (aj mO (aj ac8 aF)) 0x2286809611560bf5bf918e7622c3e3a37fab0b7509b34f15aa7f65628436c8eb47c8199eb684db060d func275
def Lw:aH E ⟨267,[.v gz,.v gz],[gz],x0⟩:=aL (aj mO aF) 0xdb4c17f436b01771fb4f87f161a14e690b822dcd71336a69de64b3779d79b0e0d1f4400542702a07d3 func267
def Lu:aH E ⟨199,[.v dc,.v aC],[dc,aC],qZ⟩:=aL (aj Sb (aj Sa (aj Lw (aj mO (aj uJ aF))))) 0x581a817271436d6a6d62a6f6d6d5a35bb234ba4d6215a9e9e81f4140483ac0711a078ab896cc6453060d func199
def RU:aH E ⟨191,[.v dc,.v aC],[dc],Aw⟩:=aL (aj Lu aF) 0x17220388eed94ccb18c96d2798ccc8a34c0d func191
def rm:aH E ⟨107,[.v cQ],[cQ,.bool],nf⟩:=aL (aj RU (aj Gs (aj RT (aj B4 (aj Lm (aj wE aF)))))) 0xbe2f31c0c6660870016cfc2afa8ed8ef55e16f35dc4536c8341c5335c4b633cc66684b4db6c0d func107
def yW:aH E ⟨105,[.v dc,.v aC],[cQ],se⟩:=aL (aj rm aF) 0x116225a28060d func105
def jc:aH E ⟨58,[.v df],[cQ],kb⟩:=aL (aj Gq (aj RE (aj Ln (aj B1 (aj yW aF))))) 0x5d1cad01c8d36dc666172033e46f513426c0d func58
def afa:=fh (aj jc aF) 0xb3cf43f60c767139450c27adb6db72b075975fab7af3cd574ebd877ec2c6312de0665f20b5c03f8af8b5b13b1e2751b9148c83485068da65ed92429b060d 202 func202 [.v qL,.v aC] [De]
def B5:aH E ⟨187,[.v dc,.v aC],[dc],o9⟩:=aL (aj Lu aF) 0xa48060d func187
def Gy:aH E ⟨95,[.v aC,.v aC],[aC],vJ⟩:=aL (aj RR aF) 0x60d func95
def ac4:aH E ⟨309,[.v gp],[.bool],DF⟩:=aL aF 0xd func309
def acH:aH E ⟨270,[.v gp,.v gp],[aC],DD⟩:=aL (aj ac4 aF) 0x60d func270
def Lt:aH E ⟨193,[.v gz,.v gz],[aC],xY⟩:=aL (aj Gy (aj acH aF)) 0x620a429b060d func193
def R7:aH E ⟨268,[.v gz,.v gz],[gz],xZ⟩:=aL (aj mO aF) 0x1843b594e407d0a91a80b1172cd71336b342e7bc7711a50dc893ef92c25e14db060d func268
def yX:aH E ⟨186,[.v dc,.v dc],[dc],p0⟩:=aL (aj R7 (aj Lw (aj mO (aj Lt (aj uJ aF))))) 0x23b269003048ca82aa2e0b09048a8d4604e04f601f9ca9578eb969b060d func186
def uH:aH E ⟨104,[.v (.bc .cX cQ)],[cQ],DN⟩:=aL (aj B5 (aj yX (aj B4 (aj rm (aj yW aF))))) 0x40a49e73741594d461991ef84d73a0db5375e5770a745be8f6e408bf1387962de08f337991bfef478579c75592d3623c0711d758fff4db3be19932aa8cfacb4a59a4a4678536c0d func104
def rp:aH E ⟨42,[.v cQ],[aC],o8⟩:=aL (aj wE (aj rm aF)) 0xd func42
def Gn:aH E ⟨100,[.v cQ],[cQ],tH⟩:=aL (aj rm aF) 0x10a00d func100
def Gp:aH E ⟨108,[.v dc],[dc],tK⟩:=aL (aj Gt (aj uJ aF)) 0x14d14568600d func108
def acP:aH E ⟨287,[.v cQ],[r1],IR⟩:=aL (aj Gp aF) 0x1337c89c9f7bcf99300cdd4c0d func287
def acL:aH E ⟨282,[.v r1],[aC],DK⟩:=aL (aj Gs aF) 0x21e0600d func282
def adn:aH E ⟨329,[.v dc,.v dc],[dc],D8⟩:=aL (aj yX aF) 0x525a28060d func329
def Ll:aH E ⟨113,[.v dc,.v dc],[aC],xX⟩:=aL (aj mO (aj Lt (aj wE aF))) 0xd1da28060d func113
def ada:aH E ⟨315,[.v r1,.v aC],[dc,aC,.bool],Au⟩:=aL (aj adn (aj RU (aj Gs (aj B5 (aj wE (aj Ll (aj B1 aF))))))) 0x11573a01ff8b440b5a3a0a5bf99e1d7cf249b2d4f9564a3afa2c53bfef93edeeed9deff3c1040f4cea6db060d func315
def acN:aH E ⟨284,[.v r1,.v aC,.v aC],[dc],DL⟩:=aL (aj ada (aj RT (aj B5 (aj yX (aj Gq (aj wE (aj B1 aF))))))) 0x192a63ab9e67448cd012ed49ea283d71e7807384baf6881059210747e6b37f815cc2e4136a67339f26ae4cb26c2860d func284
def acM:aH E ⟨283,[.v dc],[aC,.bool],D6⟩:=aL (aj mO aF) 0xc62640f73f1d2d06a24cbdff54d886d951b1448897972bc29b6c0d func283
def Lx:aH E ⟨285,[.v df,.v .bool],[df],vM⟩:=aL aF 0x60d func285
def acO:aH E ⟨286,[.v .bool,.v aC],[df],DX⟩:=aL (aj Lx aF) 0x542dc93060d func286
def RZ:aH E ⟨222,[.v r1,.v aC],[df],Az⟩:=aL (aj acO (aj Lx (aj acN (aj acM (aj acL (aj Gp aF)))))) 0x1968780933e04826db060d func222
def yY:aH E ⟨229,[.v cQ,.v aC],[df],DU⟩:=aL (aj rp (aj acP (aj RZ (aj Gn aF)))) 0x60d func229
def afe:=fh aF 0x4cd3cbe1eb9ac33d53b60ceacaec92440426dd31076b0b57ff7a5e2fa6cddf2bfb1b60f6affadc05bc0e24c1521202da7da191aba8086563093a8714faa761305e0e3a39cfd2517c272aea8747032a021c016f0a1d 206 func206 [.m Np,.v aC,.v df] []
def Lk:aH E ⟨111,[.v cQ,.v cQ],[cQ,cQ,.bool],xT⟩:=aL (aj rm aF) 0xfa9a82c28b7466bd77b5c4fd084641b6468d4db060d func111
def acF:aH E ⟨266,[.v gz,.v gz],[gz],Eb⟩:=aL (aj mO aF) 0x7421a11e02232af61e3edc6f4be6b169993a2a0976f654c3424c5896e6aca69de303fe3afed168f9093060d func266
def RS:aH E ⟨185,[.v dc,.v dc],[dc],AG⟩:=aL (aj acF (aj mO (aj uJ aF))) 0x8cdda46101d2ac1b4bd0333753060d func185
def nR:aH E ⟨102,[.v cQ,.v cQ],[cQ],nc⟩:=aL (aj RS (aj B4 (aj Lk (aj yW aF)))) 0x1a09ebb9585b9be3a147dcf69a20d12ecc3f24f2432ab51fb6ea797268d4db060d func102
def B3:aH E ⟨110,[.v cQ],[cQ],DI⟩:=aL (aj Gq (aj rm aF)) 0x63c00cf192331ba6c0d func110
def afb:=fh aF 0x68cbed17cc00280de8bccba91ca11c4e37ba295135b435b41a138993631c9798f0a6c0d 203 func203 [.v qL,.m (.optr De)] [(.st tp),aC]
def afc:=fh (aj ml (aj rp (aj yY (aj uH aF)))) 0xc9afa74e26cbe019366198d9b9c33baee4c59a4f7194963c29b060d 204 func204 [.v qL,.v (.ptr .cX (.st (.pr (.fd .cX (.bc .cX cQ)) .nil)))] [(.osl tr),aC]
def rn:aH E ⟨37,[.v aC],[cQ],pZ⟩:=aL (aj B1 (aj yW aF)) 0x10a00d func37
def uI:aH E ⟨115,[.v df],[aC],Ay⟩:=aL (aj Ln aF) 0x9bf69059a6c0d func115
def Gu:aH E ⟨225,[.v g2],[.bool],DV⟩:=aL (aj uI aF) 0x316513c5e14c0d func225
def Gv:aH E ⟨247,[.v df],[df],xU⟩:=aL (aj Gu aF) 0xd func247
def RB:aH E ⟨112,[.v cQ,.v cQ],[dc,dc,aC],Av⟩:=aL (aj B5 aF) 0x2ccec8377b3e0dadd662c72a32b54a3999ba9b060d func112
def wH:aH E ⟨40,[.v cQ,.v cQ],[aC,.bool],xS⟩:=aL (aj Ll (aj RB (aj Lk aF))) 0x544a78060d func40
def afd:=fh (aj jc (aj wH (aj rn (aj Gv (aj uI (aj nR aF)))))) 0x2cdb3d93cc8e6fe53feae93cb962d8e9ac95eb4040db1a0d4259cf40ef9bfaa17809aa8387c87855d97f4af8ba1a597d1079b4b5738d331dcd6ed0564a007f1c73dff1dbfef06c35eaa5197658b1035b1c069a670ece07388e3137a02e65d891187d0c772890bc29b0e2860d 205 func205 [.v qL,.v (.bc .cX tr),.v aC,.v aC] [aC]
def adj:aH E ⟨325,[.v gz,.v gp],[gz,gp],Ea⟩:=aL (aj mO aF) 0x2b230b9c437dae26b91a53b2896f29214db060d func325
def adk:aH E ⟨326,[.v gp],[aC],Et⟩:=aL (aj Lv aF) 0xd func326
def Ve:jO:=⟨327,[.w gp,.v gz],[gp],AI⟩
def adl:aH E Ve:=
 .q aF (.k [1] (.n (.n (.t .none (.d [.b [0],.a,.b [0],.b [0],.a,.a,.b [0],.a,.a,.b [0],.b [0],.a,.a,.a]) (.n (.t .none (.o (.k [5] (.p ⟨[(0,.w 0),(7,.v df),(8,.v df)],[(0,nI)]⟩ (.x 0 ⟨[(0,.w 0),(7,.v df)],[(0,nI)]⟩) (.t (.w5 [7,8] ⟨[(0,.w 0)],[(0,nI)]⟩) (.t .none (.d [.a,.a,.a,.a,.a,.a,.a,.a,.a,.a,.a,.a,.a,.b [0],.a,.a,.b [0],.b [0],.a,.a,.a,.a]) .l) .l)))) (.n (.t .none (.n (.o (.k [5,7,84,85] (.p ⟨[(0,.w 0),(9,.v df),(10,.v df),CJ 86],[(0,nI)]⟩ (.x 2 ⟨[(0,.w 0),(9,.v df),(10,.v df)],[(0,nI)]⟩) .l)))) (.n (.n (.n (.n (.t .none (.n (.o (.k [5,7,140,141] (.p ⟨[(0,.w 0),(9,.v df),CJ 142],[(0,nI)]⟩ (.x 4 ⟨[(0,.w 0),(9,.v df)],[(0,nI)]⟩) .l)))) .l))))))))))))) func327 call327
def ac7:aH E ⟨311,[.v gz,.v gz],[gz,gz],D9⟩:=aL (aj adl (aj adk (aj adj (aj Sb (aj Sa (aj mO (aj Lt (aj Gt aF)))))))) 0x18aeeeedfec8ea2a02ec312c918b4d25c438fae9368a4697f26e53e6c922f3a78536db6db060d func311
def R9:aH E ⟨273,[.v dc,.v dc],[dc,dc,aC],vN⟩:=aL (aj ac7 (aj R7 (aj Lw (aj mO (aj uJ aF))))) 0xf788e0dd2394b055b400e47c4642c0e722a5ad9589852d80a9ce054cf7b632a826db060d func273
def acf:aH E ⟨223,[.v cQ,.v cQ,.v aC],[r1],DJ⟩:=aL (aj R9 (aj Gs (aj B5 (aj wE (aj Gp aF))))) 0x1bf10bdba3ac1102719fa40aa2b59049000a001a49aaf2d96ecbffb610f15df6aa89cec43a0666ea6c2860d func223
def wF:aH E ⟨139,[.v cQ,.v cQ,.v aC],[df],tJ⟩:=aL (aj rp (aj acf (aj RZ (aj Gn aF)))) 0x57bd981988cfaac797f32a792d67b8a89509ecc807a5db68d4c2860d func139
def aeY:=fh (aj ml (aj jc (aj afe.2 (aj afd.2 (aj afc.2 (aj afb.2 (aj afa.2 (aj wF aF)))))))) 0x669013f520c56a7f05d70485161bda5e1c97a727017cde0fcc423ab6762428246f7e57fdbe252f2e54441b70058266eb4d608e04c6858bba08d968b74499fe68c4a63e3ace9029cbbc599a564aa80be56c4755a23fac115cb5e56cb0d92d1ebd786ab868a7c7fa24125098b578634d3a332180db36ab6773975f32d72923eb06f59629fdf54802eeb476f8cf2f39698bc0a98a1cb8dcfab498c1d8d0350ffa29cf49131d80f94a1bf8ada648be8065f193b0eb54af3d54f9e318dce658ffd71490acc7a461343eb133cbadb0e4ab4beb48f92a2bfeb1a913095b0739a64fa6458834664fbee9e2d001872284b07f0e69d9c764124d80b3469fbca020f203a911f9a5fb527614561f3759cf72a77403b46719a4f846753a2c6be46eff722cd3b16a58432b73e124385224689b3c0280312e701bd9c68a8380a2e99f2735cfabf2c77b9d4646984a757abd1dd5d1ed274f95b0be66220221fb65edee9e8247793cd0d0094899705d5ec0002554cc74704da0226a6db6db6c38a1d 129 func129 [.m (.optr HZ),.v aC,.v aC,.v aC] [aC]
def abM:aH E ⟨130,[.v eP],[hm],Xx⟩:=(aL (sem:=Ao) aF 0xa00d func130).Dw IF
def acE:aH E ⟨265,[.v df],[aC],OL⟩:=aL aF 0x20b246502b985dc03a207d3 func265
def Ls:aH E ⟨182,[.v df],[aC],Eu⟩:=aL (aj acE aF) 0xd func182
def aff:=fh (aj Gy aF) 0xe2860d 207 func207 [.v aC,.v aC,.v (.ptr .bm qL),.v (.ptr .cX r2)] [aC]
def afw:=fh (aj aff.2 aF) 0x1fdca235a13867ab29aa870fab9aa2e9dc08648f909af49daaad142e42d1f03d1481b4d72202c048701352334f9cee00a0512ebfc0361cf80528c369ed21e400c0610012180c2c38a1d 257 func257 [.m hm,.v aC,.v aC,.c 207 [(.ptr .bm qL),(.ptr .cX r2)]] []
def ae7:=fh (aj afw.2 aF) 0x280de8bcc5d1600222e91546c4c2c0616c4d 181 func181 [.m hm,.v aC,.v aC,.v aC,.c 207 [(.ptr .bm qL),(.ptr .cX r2)]] []
def afM:=fh (aj Ls (aj ae7.2 aF)) 0x1d 93 func93 [.m hm,.c 207 [(.ptr .bm qL),(.ptr .cX r2)]] []
def aeZ:=fh (aj afM.2 aF) 0x9bdbd8e23a65c5d0557670ec1b3571d15a7831bdb0a2cad3e91425008354b4228fa8a2ed9d59856b66e4efee6e4d663282a2c42b6c69cdaff0d69c7cb27f57430a93cf0d5cdbc8db7eb736e3510650fd439de66bfea3669e15b89b47dbee1fa7d5ac056d3f4bc26869ad00d0723ab1b1ed1c74ce2293f8819dc25041b6492339aaf0261390adc470d505325d844ce3eadd6f6be9b45b411c073b26cac32e5ba49a8630a3ba72291c3382103789937b64979743c29b060d 131 func131 [.v qL,.v (.bc .cX r2)] [hm,hm,oa]
def afG:=fh (aj uK (aj aeZ.2 (aj abM (aj aeY.2 (aj SO.2 aF))))) 0x1916a7b6ade384f0a4cded0f01a438f3958ef3c0831eb7b76c14f825a0586978a6467b6110bf5b8bbb883d57a8a9412e1aed0904277bb12b2ba2d36fadbb8454dfda80bf80e2c3216223f985e012288ac0a2365ce47115ad4af6438189d1ddee50dccb7604ae0f6809d81d9f47f2aa2b83541e9d5f34e91803837b76269b9cd26624ed520d1d446caa4bd38c71dfaf09c17765b858a6fc1e0dd8b5af32cdb40e962574cbd77078c44b84dcb726da54180c31ab315c8cb43330997c22cfb78cce53cd5d1cec4643f1fb2bef67376c7c4224483e275ed52edf773c4d7d05963f17124a0b0f42c6c153d21a302ae55e8fbe7bb74b6d478e9e9169d3f20534d32dc470d8e9b0e2860d 51 func51 [.v pP,.v eP,.v aC,.v aC] [C9,aC,aC]
def afy:=fh aF 0x60d 278 func278 [.v aC,.v eP] [.bool]
def afx:=fh aF 0x2860d 277 func277 [.v aC,.v eP,.v (.ptr .cX aC)] [.bool]
def afz:=fh (aj afx.2 aF) 0xb8493d5664db28b0ce3032c93dbfd0d1e0930e2860d 279 func279 [.v eP,.v eP,.v aC,.c 277 [(.ptr .cX aC)]] [.bool]
def afA:=fh (aj afy.2 aF) 0xb8493d5664db28b0ce3032c93dbfd0d1e0930e2860d 279 func279 [.v eP,.v eP,.v aC,.c 278 []] [.bool]
def afg:=fh (aj afA.2 (aj afz.2 aF)) 0x11f070ee0600d 208 func208 [.v tq] [.bool]
def LU:=fh (aj ml (aj afg.2 (aj SO.2 (aj uI aF)))) 0x1a244a39c2cd76d530b87c754ced69bae7967865e31309f734b601fc4865c676cb11c0746c3a9216b8a504ff170202d2c923dcec1c06c182cd614337a2c2a5a6c0d 132 func132 [.v tq] [aC]
def afB:=fh (aj ml aF) 0x316513c5e14c0d 280 func280 [.v g2] [aC]
def afh:=fh (aj afB.2 aF) 0x60d 209 func209 [.v g2,.v aC] [aC]
def afj:=fh aF 0xcbe83247711c30d05f24c1bc29b060d 211 func211 [.v g2,.v eP] [oa]
def SS:=fh (aj jc aF) 0x29b20a3fb846dab114c8ffaf0a6c0d 212 func212 [.v g2] [nH]
def SU:=fh (aj uH aF) 0x448060d 213 func213 [.v (.bc .cX (.bc .cX cQ)),.v aC] [cQ]
def SV:=fh (aj jc (aj B3 (aj nR aF))) 0x6beaa4e8c815112a2a758ffb76fb58026aef5c13f4594e7cd032d005bc38a1d 214 func214 [.m nH,.v aC,.v df,.v df] []
def afi:=fh (aj ml (aj yY (aj SV.2 (aj SU.2 (aj SS.2 aF))))) 0x4e2bd90d47ff2aea45cb04c9ebb582d9f8070f647723e6b96523b76dbcb16cabd65e4ed8ed1eae8c413fc6788f1a3a34328265cc38f1a2de836987b4746f4de4bf145a79bfeba3caeeab207530e2860d 210 func210 [.v eP,.v eP,.v g2,.v g2] [oa,aC]
def afk:=fh aF 0xcbe83247711c30d05f24c1bc29b060d 215 func215 [.v g2,.v eP] [oa]
def SP:=fh (aj ml (aj jc (aj afk.2 (aj SV.2 (aj SU.2 (aj SS.2 (aj afj.2 (aj afi.2 (aj afh.2 (aj wF (aj LU.2 aF))))))))))) 0x15c0072c804f0afbc2c15744d95391f305354e1bcb4d1e08da1f84fcfc13bb03a31b1520b63614a3644b9bbd087c60581a14ab96a7e4be9686d12df4d6b92940c8f97b4bf4088e36e88926b5244dc0ab81d74305ad7d320e0dcccd66aaf2bd7c2a2cbda1def750e292013c87763c3baa03cc7de62d80fa0cc6645b0dfcc645c8d432d8147008361204db61fb0abeacea9e9f910ac8a7ee503421768134bf2099209b060d 133 func133 [.v tq,.v g2] [oa,aC]
def afH:=fh (aj SP.2 (aj LU.2 aF)) 0xab6419ad9bc8f05abd70c8c1ce1979bdd7384ae7017cde5b0bc6c0a5f764be5bb99931ba93b751048c99a53f095e14db6c0d 52 func52 [.v tq] [H0,aC]
def afl:=fh (aj uK (aj LU.2 aF)) 0x594720a80936c2860d 216 func216 [.v iz,.v tq,.v aC] [aC]
def B2:aH E ⟨109,[.v cQ,.v cQ],[cQ],At⟩:=aL (aj yX (aj B4 (aj RB (aj Lk (aj yW aF))))) 0x29e534448060d func109
def afn:=fh (aj jc (aj B2 aF)) 0xacc9ae782f010d6cbb1806b3ede34ee277484012472f21bd85387d35744f6a1075900c442817d3d8d5afe5b9fffb846aaac94c8b68f0a6c0d 218 func218 [.v (.bc .cX l4)] [pS]
def afC:=fh (aj ml aF) 0x316513c5e14c0d 281 func281 [.v g2] [.bool]
def afm:=fh (aj jc (aj afC.2 (aj yY (aj B3 (aj uH (aj nR aF)))))) 0x6492abe4901d753d8e5a80e4e3d082e5712bd16048f0d0437f41aa491169222a7c48fa1179d1dcda940c6eb24a3c093864dbead3ab83923659bf44a630a7ad12416f9a3121b96838e9924138b5d5a5c1d16eff7e88d518e75a29b4491b7a0671282ed6f0a6c2860d 217 func217 [.v iz,.v (.bc .cX cQ),.v g2] [oa,.bool]
def afv:=fh (aj RE aF) 0xd 230 func230 [.v df] [aC]
def SR:=fh (aj afv.2 (aj Gu aF)) 0x60d 142 func142 [.v df,.v df] [aC,.bool]
def afo:=fh (aj Gv (aj SR.2 (aj uI aF))) 0xa389cbb9ed0531f44588e74f0a6c0d 219 func219 [.v g2] [df]
def wG:aH E ⟨39,[.v cQ,.v cQ],[cQ],tI⟩:=aL (aj B3 (aj B2 aF)) 0x61ef7056c0097172b753060d func39
def afp:=fh (aj ml (aj jc (aj wG (aj yY (aj uH aF))))) 0xcf99bad56f2ce404d80aca38d12bd67445fafd5dd198dfba33e1a471ecc8d0f4d81df09daf977c76107b70e650ed32acdd4c2860d 220 func220 [.v l4,.v df,.v .bool] [l4,.bool]
def RD:aH E ⟨120,[.v cQ,.v aC],[cQ],DM⟩:=aL (aj B4 (aj rm (aj yW aF))) 0x448060d func120
def afq:=fh (aj jc (aj wH (aj RD aF))) 0x60d 221 func221 [.v df,.v df] [.bool]
def ae0:=fh (aj afq.2 (aj afp.2 (aj afo.2 (aj afn.2 (aj afm.2 (aj afl.2 (aj SP.2 (aj uI aF)))))))) 0xc14e5332c15cd3312560be2954f9f218a96c375cc9b5d0220ec1b8b827e930e610e00f3e260c4d0f9548e13a28389a20b01f1fa56ee697c990b146183bcb82d69f81d38426ac3a6e018ac37a7db24fb76032b353af8552342bb8feec1aac43f0356c7e83dca37b9f429fd12ea79c1c91f24191a4a4a332496624300d6d560dd5cb113c6ae2df2c6766dbd043c8d8d9dc15d189887eca3f363e4ec132ed16b966d3addced44db5e728d4515295da89c0977f1141e9a9c7aec57e58a4a41d4c2a78dabdc41d4ccdd67cf277e604743b959d3bab4490f8c7d550907759c573c5e14db6c48e2860d 134 func134 [.v iz,.v tq,.v g2,.v aC,.v .bool] [(.osl l4),oa,aC]
def afI:=fh (aj ae0.2 aF) 0xca2a75080328a0d1f55058715abf191fcf85ecf14419c6fc8e25c0554a953c0919e14db0e2860d 53 func53 [.v iz,.v tq,.v g2,.v aC] [oa,m6,aC]
def Lz:aH E ⟨38,[.v cQ],[cQ],DG⟩:=aL (aj Gp (aj rm aF)) 0x63c00cf192331ba6c0d func38
def ae1:=fh (aj jc (aj Lz (aj rn (aj B3 (aj uH (aj nR aF)))))) 0x51ae1d96b3ebdc43dbe381863f8e45b4fc2f7cc66983a811e5dda8da95108cba70e5878585a6c07e2661e0e57f5e6cc36bea04fff483f1dfa585065a92f575acab6f04d2f3e7c2c235ab3263e5d55e35ac5fc798a2d0235fba38faed0489cbb1eb11a100270dff650c0acbb9bb5e51271327b6ffd24eddbfe9cb5b53d59c22cf9fdf8e18e743ba8948d9169c17f837cd2ac382c583ce5ba251dc46dc3d17c9bd543c29b060d 135 func135 [.v iz,.v z2] [pS]
def ae2:=fh (aj wH (aj rn aF)) 0xeaac7d81c00efbd21499fe2e64fe9b5c33230d519f114b348ffaf0a6c0d 136 func136 [.v (.bc .cX cQ)] [cQ]
def ae3:=fh (aj jc (aj B3 (aj uH (aj nR aF)))) 0x17c2941b7cf8ccf9e62582d4b6de5239c2b3c1b3477c4e711353b89fcfb26b18bc43bec4d6e858b3c6b7eb830f832289ed25d2780fe0a240dd29714a03faca7ad10d2169a1284bca7bf5a624138b58403c1caad4f7108ba18e75a2990011b77006b27cd56f0a6c2860d 137 func137 [.v iz,.v g2,.v g2] [pS]
def ae4:=fh (aj jc (aj uH (aj nR aF))) 0x4f4c67482675ed21fb6d5c698a77e80b68bf38619c85cbc41bea6ac797c87a2b80e17057403fc077e1cccaf96bf96e808ead80572356d1cf11ab948fd6f0a6c2860d 138 func138 [.v z2,.v aC,.v (.bc .cX cQ)] [cQ]
def afr:=fh (aj Gu aF) 0xd 224 func224 [.v df] [df]
def afs:=fh (aj uI aF) 0xd 226 func226 [.v df] [.bool]
def aft:=fh (aj uI aF) 0xd 227 func227 [.v df] [.bool]
def afu:=fh (aj Lx aF) 0xd 228 func228 [.v aC] [df]
def SQ:=fh (aj jc (aj rp (aj yY (aj afu.2 (aj aft.2 (aj afs.2 (aj Gu (aj B2 aF)))))))) 0x78a80365d166edb3099bb9a4c2860d 141 func141 [.v df,.v df,.v aC] [df]
def ae5:=fh (aj afr.2 (aj SQ.2 aF)) 0x2860d 140 func140 [.v df,.v df,.v aC] [df]
def afJ:=fh (aj rp (aj wG (aj Lz (aj rn (aj SQ.2 (aj ae5.2 (aj wF (aj ae4.2 (aj ae3.2 (aj ae2.2 (aj ae1.2 (aj B2 (aj nR aF))))))))))))) 0xac02e2441934d8f618f758fab02767a7dc408f8f30876f8adff5baf8067a92abd43565e957ea72c7bee3a0a40cf9ae184d5fcf61c6ac0abb1680a71d773211ebb2472235851f21aaa0bdc817affce2f0a6db6c2860d 54 func54 [.v iz,.v g2,.v (.st (.pr z2 (.pr g2 .nil)))] [(.osl l4),.bool]
def y8:=fh (aj afJ.2 (aj afI.2 (aj afH.2 (aj afG.2 (aj afF.2 (aj uK aF)))))) 0x616068287d32bd8c9da62bc43e995ec65628342022adffcfe44f2f7798caae501cf74e951f0ce5b99248c81d00cc72329bea998409aaeed0bb589fa94e33b178368fa211f48b27ac5ecce9b060d 14 func14 [.v pP,.v g2] [(.bc .bm l4),Db,aC]
def Sf:aH E ⟨44,[.v iz,.v df,.v .bool],[aC],IU⟩:=aL (aj ml (aj uK (aj uI aF))) 0x80e02860d func44
def ady:aH E ⟨47,[.v iz,.v df],[nH],D5⟩:=aL (aj jc (aj wG aF)) 0x5d0fd70b560df7742f5d618d5cd6f87b82afdba740fde251dd679b1c1720d7dc8b1c148a3de0d6da3509a3a62c69a683868275b1c8da835bda6202762ada4c06b96cffb065b0c768b66e0df36499d50e03246cacd24138b4e0bfc1bd217f561f3d875a2947711b70e25f25d43c29b060d func47
def abF:aH E ⟨119,[.v cQ],[dc,.bool],DH⟩:=aL (aj Lu (aj rm aF)) 0x14b28a00d func119
def adx:aH E ⟨46,[.v (.bc .cX (.bc .cX cQ))],[H2],AL⟩:=aL (aj rp (aj Lm (aj RD (aj abF (aj Gn aF))))) 0x279f938a52d679938660e9cd012927a517347aed17f3102ad161bad3066d0cd90665fb245951c9aeeddcb0f61c8e154a3f72763d72164b28ea48860db830ee4ce107fe089eae77f3e2588267e23e819b64819fb0d0d2443ddf3da2c04f396e6798da152991ef0a6c0d func46
def RV:aH E ⟨196,[.v qO],[aC],Ax⟩:=aL aF 0xd func196
def acJ:aH E ⟨272,[.v (.bc .cX dc),.v (.ptr .cX aC)],[.bool],IS⟩:=aL aF 0x60d func272
def ac6:aH E ⟨310,[.v qO,.c 272 [(.ptr .cX aC)]],[aC],EH⟩:=aL (aj acJ aF) 0x3195177853060d func310
def acI:aH E ⟨271,[.v qO,.c 272 [(.ptr .cX aC)]],[.bool],I4⟩:=aL (aj ac6 aF) 0x60d func271
def ab9:aH E ⟨195,[.v qO],[aC],DQ⟩:=aL (aj RV (aj acI aF)) 0x23e0e00d func195
def abC:aH E ⟨116,[.v qO],[aC],DS⟩:=aL (aj RV (aj ab9 aF)) 0xba6c0d func116
def abE:aH E ⟨118,[.v qO,.v (.bc .cX dc)],[(.osl (.bc .bm dc))],DT⟩:=aL (aj Lm aF) 0x79a3e158e3299947f20ac71abf1cb3215c84bc7f67f68e4c0ca534f3c49430c8b0cb8f598acb192e68eec77118be90d05f24c1bc29b060d func118
def aca:aH E ⟨197,[.v qO,.v qO],[H2],DR⟩:=aL (aj yX (aj RS aF)) 0x335cf466d753875d46b8b77e264232ff3831e57c168752de8acca6667876ff4508eee2267f4727adf714a2e174af1d5e580f27f67f68ead3585f3c4990459b0cb96ebf47711ff0dc5f2584bc29b060d func197
def acb:aH E ⟨198,[.v dc,.v dc],[dc,aC],D7⟩:=aL (aj R9 aF) 0x2f21db394b055b400e6bc46aa6ba2ae2674b693636a9b060d func198
def abD:aH E ⟨117,[.v qO],[(.osl dc)],DP⟩:=aL (aj acb (aj aca (aj yX (aj Gq (aj B1 aF))))) 0x40daa43244bed42aad3bea5c6d69342212069a713f4b96df688cadcdb2f2173c01408f2a31af2a9b940abcf06bc3774c2cb9e5489de80ebe1bf6e43f8e38d8a833855cf6b3959621f6c285d15485f57298809d8ab69301ae5b3fedf7107e6f34d2af0d59288bbcf78081a09a8339a7dc093c772f7e4361eab4459ceb4bea608dc8a47fc657122f6c94fade14db6c0d func117
def adw:aH E ⟨45,[.v qO],[aC,aC,aC,aC],DO⟩:=aL (aj abE (aj abD (aj abC (aj wE (aj Ll aF))))) 0xe4e59141d48aca86ad4b9099a98be7483acb15fb470623a699a02893b0ee1262ae414f806d545b2de8dd4d96a8ffcc340fd4e1b8dc8e032f4b3e68186a013079cb734efccd0cb4a9505e78536c0d func45
def RC:aH E ⟨12,[.v iz,.v df],[zZ,aC],D4⟩:=aL (aj ady (aj adx (aj adw (aj Sf aF)))) 0x31c26028060d func12
def ae6:=fh (aj Sf (aj RC aF)) 0x31c3e028060d 15 func15 [.v iz,.v df] [aC,aC]
def Sg:aH E ⟨59,[.v df],[.bool],A6⟩:=aL aF 0xd func59
def Gw:aH E ⟨60,[],[cQ],tQ⟩:=aL aF 0x408 func60
def adC:aH E ⟨62,[.v df],[.bool],E6⟩:=aL aF 0xd func62
def B6:aH E ⟨232,[.v gz],[nI],pb⟩:=aL aF 0x5d42d751ab27b17f4b3435b0c101a28f318a51a6c0d func232
def yZ:aH E ⟨231,[.v .bool,.v gz],[dc],nL⟩:=aL (aj B6 aF) 0x1830070329200d func231
def Gr:aH E ⟨146,[.v dc],[dc],tP⟩:=aL (aj yZ aF) 0x14568600d func146
def RF:aH E ⟨147,[.v dc],[aC],sj⟩:=aL (aj R0 (aj B6 aF)) 0xfff03f42ab60061aa16f0a6c0d func147
def RG:aH E ⟨148,[.v dc],[dc],A0⟩:=aL (aj yZ aF) 0x14568600d func148
def acQ:aH E ⟨288,[.v gz,.v aC],[nI],E1⟩:=aL aF 0xe3d03792dde711a50ac893ef9214db060d func288
def Sc:aH E ⟨289,[.v gz,.v aC],[nI,.bool],A4⟩:=aL aF 0x1e1be4de1e56b7e50ff0951244032317d25a26a91a9989916f1b22e66541b4bd9a5312616154cec1866b349774658b282429b060d func289
def Lp:aH E ⟨154,[.v aC],[dc],yg⟩:=aL (aj yZ aF) 0xf813cf0093e45733a6c0d func154
def adb:aH E ⟨316,[.v dc],[dc],A3⟩:=aL (aj yZ aF) 0x14568600d func316
def adc:aH E ⟨317,[.v gz,.v gz],[nI],EZ⟩:=aL aF 0xbb7880bb8facec3b5f429cd20a1b35c4cdab20af792dde711a50ac893ef9214db060d func317
def ade:aH E ⟨318,[.v gz,.v gz],[aC],E0⟩:=aL aF 0x620a429b060d func318
def adf:aH E ⟨319,[.v gz,.v gz],[nI],A5⟩:=aL aF 0x7cfb007d0a87882a259ae266d59057bc7711a50ac893ef9214db060d func319
def Sd:aH E ⟨293,[.v dc,.v dc],[dc],yf⟩:=aL (aj adf (aj ade (aj adc (aj B6 (aj yZ aF))))) 0x21fbb117d22943134d7a976f40c9ee8a33780eab6ba041e567f11e5edeae42f96a0d2edbd4d5c073ccad5346cfe23e12bb02c08ed3e24b038e3a39bfa3df4778210f4acc6f71849372347157b781af3a247ad919189b52bfb01cc1753060d func293
def acR:aH E ⟨290,[.v dc,.v dc],[dc],EY⟩:=aL (aj adb (aj Sd aF)) 0xea82f2c780097172b753060d func290
def R1:aH E ⟨234,[.v dc,.v aC],[dc],p2⟩:=aL (aj acR (aj Sc (aj acQ (aj yZ (aj Lp (aj Gr aF)))))) 0x657a928fb2805a4fca68d74f380f3da273179d81c5d2b081d0f9748709c81dcfdc02e66aa7dac71f88e1f2ce154c6121c060da65871ecf68c16bdd729b060d func234
def RH:aH E ⟨149,[.v dc,.v aC],[dc],yi⟩:=aL (aj R1 aF) 0x17220388eed94ccb18c96d2798ccc8a34c0d func149
def RI:aH E ⟨150,[.v dc],[aC],A1⟩:=aL (aj Lv (aj B6 aF)) 0x1870070768600d func150
def Gx:aH E ⟨61,[.v dc,.v aC],[cQ],p3⟩:=aL (aj Gw (aj RI (aj RH (aj RG (aj RF (aj Gr aF)))))) 0xba39a95b400e46a464500e722ae2611b67b635a8a6db6db060d func61
def abX:aH E ⟨17,[.v df],[cQ],A7⟩:=aL (aj adC (aj Gx (aj Gw (aj Sg aF)))) 0xb408ac63c00cf4111bcce9b6c0d func17
def afK:=fh (aj SR.2 aF) 0x2ee0600d 55 func55 [.v l4] [.bool]
def adA:aH E ⟨56,[.v cQ],[.bool],Xw⟩:=aL (aj rm aF) 0x8790600d func56
def afL:=fh (aj jc (aj wH aF)) 0x60d 57 func57 [.v df,.v Nq] [aC]
def y9:=fh (aj adA (aj afK.2 (aj afL.2 aF))) 0x365632878015453060d 16 func16 [.v l4,.v cQ] [.bool]
def bj:=fh (aj abX (aj y9.2 (aj ae6.2 (aj y8.2 aF)))) 0x25542a75461c1c43818 4 func4 [] [.bool]
set_option maxRecDepth 100000
def adv:aH E ⟨4,[],[.bool],yk⟩:=bj.2.Dw λ_=>by kernel_rfl
def LC:aH E ⟨5,[.v aC,.v aC],[aC],yb⟩:=aL aF 0x60d func5
def ab8:aH E ⟨19,[.v eP,.v aC],[aC],EV⟩:=aL aF 0x60d func19
def RW:aH E ⟨20,[.v aC,.v aC],[aC],ye⟩:=aL aF 0x60d func20
def adF:aH E ⟨65,[.v aC],[cQ],E3⟩:=aL (aj Gx (aj Lp aF)) 0x10a00d func65
def RJ:aH E ⟨151,[.v cQ],[cQ],q1⟩:=aL (aj Gx (aj Gw aF)) 0x8590600d func151
def Lo:aH E ⟨152,[.v dc],[aC],si⟩:=aL (aj Gr aF) 0xd func152
def adE:aH E ⟨64,[.v cQ,.v aC],[cQ],E4⟩:=aL (aj Gx (aj Gw (aj Lo (aj RJ aF)))) 0x15ac805c6eed758eece3cf67d22f9aa40148a6da078a66b836c6798cd09b060d func64
def R2:aH E ⟨239,[.v .bool,.v df],[df],sk⟩:=aL aF 0x60d func239
def ach:aH E ⟨236,[.v .bool,.v aC],[df],A8⟩:=aL (aj R2 aF) 0x542dc93060d func236
def acS:aH E ⟨291,[.v dc,.v aC],[.bool],A2⟩:=aL (aj Sc (aj B6 aF)) 0x2990006591f2c01c2da28060d func291
def acT:aH E ⟨292,[.v .bool,.v aC,.v .bool,.v aC],[.bool],E5⟩:=aL aF 0xe2860d func292
def aci:aH E ⟨237,[.v .bool,.v dc,.v aC,.v .bool,.v aC],[dc],E2⟩:=aL (aj Sd (aj acT (aj acS (aj Lp (aj Lo (aj RH (aj RF aF))))))) 0x161ee6cc7e4465599f56a9ee024683da0a4908c2ec915b008f358452581985c8f9a23b3c816a80161357e7ca935c86b01e3fbed79047b5c50a9fe17e6a536c48e2860d func237
def acj:aH E ⟨238,[.v dc],[aC,.bool],EX⟩:=aL (aj Gr aF) 0x36e5a9aa232494111bc72429b6c0d func238
def abN:aH E ⟨153,[.v .bool,.v dc,.v aC,.v .bool,.v aC],[df],E8⟩:=aL (aj R2 (aj acj (aj aci (aj ach (aj R1 (aj RI aF)))))) 0x36f635d014c828516648d1039f3c82919dcc4db6c48e2860d func153
def adD:aH E ⟨63,[.v cQ,.v aC],[df],E7⟩:=aL (aj abN (aj Lo (aj RJ (aj RG aF)))) 0xcecd93139c6325e012aeb3c43afa69fc3adb753cb9346a6db060d func63
def ab5:aH E ⟨18,[.v aC],[df],AZ⟩:=aL (aj adF (aj adE (aj adD (aj RW aF)))) 0xd25936c0d func18
def RX:aH E ⟨21,[.v aC,.v aC,.v (.bc .cX o2)],[C8],vU⟩:=aL aF 0x1b16a3cadec2c905a8215961038dc3cfcf022b1423a62adee2766d9441bd9bf413f936b0258db0613855cb3612a838cb1b84952acbd2fae0c1d65f463124e87bc054877516f505f269f63d645c49a4e480f948f8065f2444ef595155077630b477c5926b2ed18c5ead562b8665a535c5ac27ac657625815c8c0d39772770e1d5ca48536c2860d func21
def adB:aH E ⟨6,[.v aC,.v eP],[pP],EW⟩:=aL (aj RX (aj RW (aj ab8 (aj ab5 aF)))) 0x857c0b73a8361060c4450974c1c4dc7d4339e204b7a14e1d22d5b9f81bb81ce49b0f55a24568934311b9148d88b2da65ed92429b060d func6
def RY:aH E ⟨22,[.v g2,.v aC],[df],yc⟩:=aL (aj LC aF) 0x921e9b060d func22
def adG:aH E ⟨7,[.v g2,.v aC],[gO],ER⟩:=aL (aj LC (aj RY aF)) 0x469d8ffa45c9b4386f581b3e1190e67c8cc9854b03dfa9cb7dd01fb518c92e7081b42832b1d0b422fd36ddb1495dc12f8b49d2f01b205f83467603910451595f2d615f65464c875222429b060d func7
def abO:aH E ⟨155,[.v g2],[.bool],E9⟩:=aL (aj Sg aF) 0x30a5214c0d func155
def LD:aH E ⟨66,[.v iz],[aC],vS⟩:=aL (aj abO aF) 0x9a39549089a231007afee5752252d7622a0dbbe989d68087900b4c0d func66
def Sh:aH E ⟨67,[.v iz],[qN],A9⟩:=aL (aj LD aF) 0x4ebc43ab9f3303d521754ab357914e4d3c6e84ddf4b8c733942e261c669a7fcd86c60ba786dd30e031760c7e66a1d7bc0d7e8bb0c11d96c23f708d854d2990578536c0d func67
def acg:aH E ⟨23,[.v iz],[pP,aC],vT⟩:=aL (aj Sh (aj LD (aj RX aF))) 0xf150cdfe5fe3a89cbe873063d948a20373919254ce4161342edb8cc8d88b27ac5ecd2272bc29b6c0d func23
def Si:aH E ⟨68,[.v aC],[xB],Bc⟩:=aL aF 0xbbbf23d7e0b5fb846f2a694c90a6c0d func68
def Sj:aH E ⟨69,[.v (.bc .cX (.bc .cX .bool))],[Dd],Ba⟩:=aL aF 0x2fa291a1920f6ec8c280c8d30eaa0a33d6c324c10ac5e209c778430dac026ca0aded281659a5cee039f9d1800774521ac312dcc8b8b5c332421741e694b3490a6c0d func69
def ack:aH E ⟨24,[.v iz],[pR,aC],vV⟩:=aL (aj Sj (aj Si (aj Sh (aj LD aF)))) 0x1b3de369d3c89a432eb362e85fd8761b53ac59657f3d59d10c34aed716c6e310e5b71991bd082d0f58bd9a451e14db6c0d func24
def abP:aH E ⟨156,[.v eP],[.bool],ES⟩:=aL aF 0x30a5214c0d func156
def RK:aH E ⟨157,[.v eP,.v aC],[.bool],AY⟩:=aL aF 0xc414853060d func157
def LF:aH E ⟨70,[.v mD],[aC],yj⟩:=aL (aj RK (aj abP aF)) 0xaebec802cac4b24b608f396b0c3542a578536c0d func70
def adH:aH E ⟨71,[.v eP,.v aC],[.bool],EU⟩:=aL aF 0xb01480ade0c5e91f59579d61b38532f9214db060d func71
def abQ:aH E ⟨158,[.v eP,.v aC],[.bool],Fa⟩:=aL aF 0x4f6b0c414853060d func158
def abR:aH E ⟨159,[.v eP],[.bool],Fb⟩:=aL (aj RK aF) 0x30a5214c0d func159
def RL:aH E ⟨160,[.v mD],[xB],Bb⟩:=aL aF 0x98a3e812300dbafb2082ac808944cacc76ac4ba8b9a6bd8625b1b4652379b40b242a578536c0d func160
def adI:aH E ⟨72,[.v mD,.v eP],[pR,aC],Fc⟩:=aL (aj LF (aj Sj (aj Si (aj RL (aj abR (aj abQ aF)))))) 0x71aa35ae42df66d28c13bc745456eba0e4dec2138dc85b3ac2894a1a286f4ee3f33ff8660f1a6ddc2a96657dd8fbd12093b2d8e3221d48945237b305a36e1c3648bbc29b6db060d func72
def acu:aH E ⟨25,[.v mD,.v eP],[pR,aC],tR⟩:=aL (aj adI (aj adH (aj LF aF))) 0x11c240b828060d func25
def adJ:aH E ⟨73,[.v mD],[H1],Fe⟩:=aL (aj RL aF) 0xf8e8841f29e9ee7caa2228d2030736e02598017d5377ea0f6e675f4095c2944f4ffbeb01665a81d4c0d func73
def Sk:aH E ⟨74,[.v (.ptr .cX (.st (.pr (.bc .cX (.bc .cX .bool)) (.pr (.bc .cX .bool) .nil)))),.v aC],[hm],Be⟩:=aL aF 0x37b00038019fe082858959575560c7711810a65f2429b060d func74
def adK:aH E ⟨75,[.m H1,.v aC],[],Bd⟩:=aL (aj Sk aF) 0x42c96c79297e309f2c19b63dda99433a35ac61184af21219250d335e0155fa3e0af9c3200e80ea256f3568ed84a33a765ade3c24123285034082439e14c1d func75
def acD:aH E ⟨26,[.v mD],[(.osl gO),aC],Bf⟩:=aL (aj adK (aj Sk (aj adJ (aj LF aF)))) 0xfc11062bcb857ba8cf1b022bdd77232e52750a42b1937c82bc29b6c0d func26
def adP:aH E ⟨8,[.v iz,.v eP,.v g2],[No],ya⟩:=aL (aj acD (aj acu (aj ack (aj acg (aj RY aF))))) 0x2e13425fc6bc6731400bb82bf72a1f7ceea6d7659ca23e678cac2e6c41ac3aa7e072fb871920b3ff1e3444468ceaf24c9d2ccfa7657d9d060b1d7ac8410dda8ac7d2aea26a0159377e8bff7a1d4813e3c3645c68a58503fed5197085d544b063896161d2f8b76f37f9e8306c8f6de8b5763b32c536a37e2ddf90fc6a0e35342c079908f68b20209dc2faf4497868163fc568ff0c2d33ae6006c0f10f74400480a2e563e0aab6ac48dfac71eea72125e4bc29b6db6c2860d func8
def adL:aH E ⟨76,[.v eP,.v aC],[hm,.bool],Fj⟩:=aL aF 0x2440fe56d0082dfd1995649549b6fcff84c188d32f8a9154b1020cf3dcc1d7726ced04fe9ab949db0f0a6db060d func76
def RM:aH E ⟨161,[.v iz],[qN],x7⟩:=aL aF 0x4f13db3a15af2cb8f6b9bba6a5f44089eda84ec93c99f4670fe05af6508c4baba26af8cf3387018bb063f3350ebde06bf45d879e23ce5ba11fb846c2ac94c8b4af0a6c0d func161
def acU:aH E ⟨294,[.v (.bc .cX o2)],[qN],OM⟩:=(aL (sem:=Ao) aF 0x40a00d func294).Dw IF
def acW:aH E ⟨297,[.v eP],[aC],DE⟩:=aL aF 0x632a2d9d6f0a6c0d func297
def Se:aH E ⟨296,[.v o2,.v o2],[aC],x8⟩:=aL (aj Gy (aj acW aF)) 0x123600f3a77182ef6ca15e998133753060d func296
def adp:aH E ⟨330,[.m qN,.v aC,.v aC,.c 296 []],[],AX⟩:=aL (aj Se aF) 0x1fdca235a13867ab29aa870fab9aa2e9dc08648f909af49daaad142e42d1f03d1481b4d72202c048701352334f9cee0142512ec02c361d010528c369ed21e580c0612012180c2c38a1d func330
def adq:aH E ⟨331,[.m qN,.v aC,.v aC,.v aC,.c 296 []],[],EQ⟩:=aL (aj Se aF) 0x618d4d1092b124cd52f059935dd18e83300f9ccb94bd9add5ea5af44781cef91356d2c660956f18446a382dc6960ec7ab602c4629fd4829c93800280de8bcc5ca1238a1d func331
def adh:aH E ⟨320,[.m qN,.v aC,.c 296 []],[],Jc⟩:=aL (aj adq (aj adp aF)) 0x223d1f703c821cbbc5f4803dc3c0428725ba2d5bd4a208b630d8740413cb0db1920a09848d80d93620914769b0a1d func320
def acV:aH E ⟨295,[.m qN,.c 296 []],[],Ja⟩:=aL (aj adh aF) 0x1d func295
def acm:aH E ⟨240,[.v (.bc .cX o2)],[qN],EA⟩:=aL (aj acU (aj acV aF)) 0x0 func240
def abS:aH E ⟨162,[.v aC,.v aC,.v (.bc .cX o2)],[C8],Ey⟩:=aL (aj acm aF) 0x4dee5c63a8dc6e6744516dfc7065c358a1b7c1e9b5fdccee4fcbef8a97aee83f10c1c4df3450f9cdb5f453c6c6d17dda43f6c1d5bffd3368735fd0f6d35eac33b77e02b10c26392ea70aa1d3c9527c82d31d99dfd7413f238db458978ba4bb52b0b1b3f140b427ba139a959d57bf83304e06dd890afb8e367db1b9ed202c2f47fe024cbf9c477912a466f6cac2f054b18e9fbb7d06b2b41cd567fd00e712dd7632bb00ae46ce1cbb93faaceae5276f0a6c2860d func162
def adM:aH E ⟨77,[.v iz],[pP,aC],Ex⟩:=aL (aj uK (aj abS (aj RM aF))) 0x1df4337f97f3d0b4df2ac7b2914407297ce466b1d5349e5d09a176dc6646cbb88b27e89adecd2632bc29b6c0d func77
def RN:aH E ⟨163,[.v aC],[xB],AC⟩:=aL aF 0x9d677a82d7ee11bcab853234f0a6c0d func163
def abT:aH E ⟨164,[.v iz],[qN],Ew⟩:=aL (aj uK (aj RM aF)) 0x20580600d func164
def RO:aH E ⟨165,[.m xB,.v aC,.v aC],[],AF⟩:=aL aF 0x1b90811b875b96fba9041d57de013e6c86f7ef0113530a1d func165
def acn:aH E ⟨241,[.v (.bc .cX (.bc .cX .bool)),.v aC],[hm],DZ⟩:=aL aF 0x948004acb192e60c7711810d05f24c1bc29b060d func241
def RP:aH E ⟨166,[.v (.bc .cX (.bc .cX .bool))],[Dd],AE⟩:=aL (aj acn aF) 0x3360c8d91558484962b821cb6e50502daf161880619290031858a29614ead1f0d5abfe5bb322e2d70cc9085d07c452cd240f0a6c0d func166
def adN:aH E ⟨78,[.v iz],[pR,aC],AB⟩:=aL (aj uK (aj RP (aj RO (aj abT (aj RN aF))))) 0x1cf822550ff7e07874fe6306c16e310e5b7199634ffa105a1e02ab737b34a9bc29b6c0d func78
def abW:aH E ⟨169,[.v eP,.v aC],[.bool],D0⟩:=aL aF 0x13f44846cbb9863e60a39d3c29b060d func169
def abZ:aH E ⟨173,[.v aC],[.bool],EN⟩:=aL aF 0xd func173
def LG:aH E ⟨86,[.v eP,.v aC],[aC,.bool],vR⟩:=aL (aj abZ (aj Lq aF)) 0x1098cc9b28a3b4db060d func86
def RQ:aH E ⟨170,[.v mD,.v aC,.v aC],[.bool],xW⟩:=aL (aj LG aF) 0x2e0e02860d func170
def Sl:aH E ⟨80,[.v mD],[aC],AA⟩:=aL (aj RQ (aj abW aF)) 0x1892d424fd40bed2a076cf69658e6c3a9308c83eeb40b7f36760e07f7730cdd4d51aa578536c0d func80
def acq:aH E ⟨244,[.v mD,.v aC],[.bool],D3⟩:=aL aF 0xb828060d func244
def ads:aH E ⟨335,[.m hm,.v aC,.v aC],[],EM⟩:=aL (aj Lq aF) 0x38a4ae983b0ef1304a12b7384d84afd8a39d248d72da966da133b2195a58c76b24dc13a16ac80304ab78c22351352028144b5ef00d873e014130d9eb4879003018400466030b0a1d func335
def adr:aH E ⟨333,[.m hm,.v aC,.v aC,.v aC],[],EP⟩:=aL (aj ads aF) 0xa037a2f31745800889a4451b130b0185b func333
def adi:aH E ⟨322,[.m hm],[],AW⟩:=aL (aj adr (aj Ls aF)) 0x0 func322
def Vd:jO:=⟨245,[.v eP],[.bool],D2⟩
def acr:aH E Vd:=Nm.ahZ bq (sort:=λd=>(AW (d,())).map λa=>a.1) (λe f b=>by obtain⟨a,c,rfl⟩:=fQ.1 b;exact adi.2 (e,()) a c)
def acp:aH E ⟨243,[.v aC,.v Df],[.bool],IT⟩:=aL (aj acq aF) 0x60d func243
def acX:aH E ⟨298,[.v eP,.c 243 [Df]],[aC],I8⟩:=aL (aj acp aF) 0x3195177853060d func298
def aco:aH E ⟨242,[.v eP,.c 243 [Df]],[.bool],EG⟩:=aL (aj acX aF) 0x60d func242
def abU:aH E ⟨167,[.v mD,.v eP],[aC],DY⟩:=aL (aj Sl (aj acr (aj aco aF))) 0xb828060d func167
def abV:aH E ⟨168,[.v mD,.v eP],[pR],D1⟩:=aL (aj RQ (aj RP (aj RO (aj RN aF)))) 0x18715cf7c57889b6c6dd9bf0269f2c8b3d0ab0d917dfb983bf03770a54995fd4aab44e10616d60f396e8dc621d46e45237a105a37717b64961143c29b060d func168
def adO:aH E ⟨79,[.v mD,.v eP],[pR,aC],AD⟩:=aL (aj abV (aj abU aF)) 0x11c240b828060d func79
def R8:aH E ⟨27,[.v iz,.v eP],[(.ptr .bm xC),aC],tS⟩:=aL (aj adO (aj adN (aj adM (aj adL (aj jc (aj uK aF)))))) 0x14063af1195b2e4386b123a4807dea698dedacb4b63310d9fde61e674fa2a0c7def9ce2f916d4a12b64584250faccecede46600b2fd57c076e129de3bb1588bd52d7dc4fb49d6591ff624b7f91185ca55b7a47d972e0d41a85c0787b65a711ff34ff24965914e351f7aeee6f6492d394c4827bd3ac053eb924765e2d3ed1751ed10e30dd274cd3034d082d358af1ac05bbf0ebeda61531252cb67b7870c6d935965c65d79db9924095759e21e2fa8fdb753cb9346a6db6db060d func27
def ac3:aH E ⟨303,[.v df,.v df],[df,df],Ev⟩:=aL aF 0x60d func303
def acs:aH E ⟨246,[.v df,.v df],[df,df],I2⟩:=aL (aj ac3 aF) 0x60d func246
def abY:aH E ⟨171,[.v eP,.v aC],[hm],EK⟩:=aL (aj acs aF) 0x4f1df1c7b43bfda52e29297547e0e9b0b6c79603b14c9a29972590413e51e39053060d func171
def adQ:aH E ⟨81,[.v nJ,.v aC],[hm,.bool],Fg⟩:=aL (aj abY aF) 0x8c989a4915c00c4fe9246646627386d88d518613a822be88c5866006e60ebb93013c46523febc29b060d func81
def adS:aH E ⟨83,[.v pQ,.v aC],[.bool],Fi⟩:=aL aF 0x23d66fc004964bdfe95654edcc34053e6b0a1e14db060d func83
def adU:aH E ⟨85,[.v nJ,.v eP,.v pQ],[.bool],Fh⟩:=aL (aj LG aF) 0x2a7b180181daa81aac5eb8bc29b6c2860d func85
def adR:aH E ⟨82,[.v pQ,.v (.ptr .cX aC)],[.bool],Jn⟩:=aL (aj adS aF) 0x4b828060d func82
def adV:aH E ⟨87,[.v nJ,.c 82 [(.ptr .cX aC)]],[aC],I6⟩:=aL (aj adR aF) 0x3195177853060d func87
def acY:aH E ⟨29,[.v nJ,.c 82 [(.ptr .cX aC)]],[.bool],ED⟩:=aL (aj adV aF) 0x60d func29
def adT:aH E ⟨84,[.v pQ,.v (.ptr .bm nJ),.v (.ptr .cX gO)],[.bool],Jo⟩:=aL (aj adU aF) 0x12e0e02860d func84
def adW:aH E ⟨87,[.v nJ,.c 84 [(.ptr .bm nJ),(.ptr .cX gO)]],[aC],I7⟩:=aL (aj adT aF) 0x3195177853060d func87
def acZ:aH E ⟨29,[.v nJ,.c 84 [(.ptr .bm nJ),(.ptr .cX gO)]],[.bool],EE⟩:=aL (aj adW aF) 0x60d func29
def acK:aH E ⟨28,[.v mD,.v nJ],[aC],vW⟩:=aL (aj LG (aj adQ (aj Sl (aj acZ (aj acY aF))))) 0x302a1d50759f869b8fcfbd049fac92ae9a902d90704d1957da751e1e652083817c09810dac0bda16784ece531e9c3d2cdb68776d6259251ef0e85fd0587d05d021347c82fd2d55954536db060d func28
def adY:aH E ⟨88,[.v pQ,.v (.bc .cX lg)],[hm,aC],Eo⟩:=aL aF 0x6fb044f6e37f070ceaf6e7f98519f8018dcd9410b424c3745a1cc734aace3ce5b983aee4604f5994948b43c29b060d func88
def Sm:aH E ⟨89,[.v (.ptr .cX (.st (.pr aC (.pr mD (.pr (.bc .cX (.fd .cX cQ)) .nil))))),.v aC,.v aC],[cQ],vX⟩:=aL aF 0x11a02860d func89
def ab0:aH E ⟨174,[.v eP,.v aC],[aC],AV⟩:=aL aF 0x3195177853060d func174
def ad0:aH E ⟨90,[.m ts,.v lg],[],Eh⟩:=aL (aj ab0 (aj B2 aF)) 0x4d7eb7f643218ba08a78f210e0bfe3cd5944c9821b9e563d3edbdc2de63c6b19b29680f7548c57333f1b3bc3689d368763f7fb5c161aba00288d3e0ed3c016111ea3929483432357511feabe3c5b2c27752de1e93180a0f2ff3e888d164ae050ffc3bbc7ab7d634c2a36dea5612b34904e397a256e87f69be3fa3d944d6a8e9003fb4e5ec8ef5cc153c4ca4246038a0fd2c6093b61e14c1d func90
def ac5:aH E ⟨31,[.v (.ptr .cX (.st (.pr aC (.pr mD (.pr (.bc .cX (.fd .cX cQ)) .nil))))),.v pQ,.v (.bc .cX lg)],[ts,aC],Ef⟩:=aL (aj ad0 (aj Sm (aj adY aF))) 0xd450f56781b1d5a0c4377aa2d5a600ab9b96afb1bf8aff8b3a78915a722310324efe3724e78c01bfd29a1ae020ee055bd856742a288c65940defe9145cad8b3b50da9cc7e4a24fcbc1f9f3603ed04b5ec2e026856a609427bac304487dc31481b228ef662a7c230370fa2d5fcca4f24b52911e654745c6a7cd69422d13af27279b9a3c4773b7fe5a9f70c227c78a627382ad021ea653898bfd1f3bc9721a66cdb423c705c0bb97361d5e552c15e85bca8ba87145ea7a51bc8fcc5f109806f053924f3e891028a3a2bfc9fe8066112f8d1fb061cef8f1df4156a39429046b7f3899303b31b9e1d880e541bb23c1f90aba9279f311901d5c591179ed43f54d1640eca1a05b06358e943304e75aafa1382001406f45e62e536c2860d func31
def Lr:aH E ⟨178,[.v lg,.v aC,.v aC],[df],tO⟩:=aL (aj yY aF) 0x2860d func178
def ab1:aH E ⟨175,[.v lg,.v aC],[cQ,aC,aC],AR⟩:=aL (aj ml (aj jc (aj wH (aj rn (aj Gv (aj Lr aF)))))) 0x7a5c0f3c70d313d55c608ff0e826d45279929d335cc91c70abeda2e0d06c6e658ea48ba045260ed1b7d1c9ab649c3c29b060d func175
def ab2:aH E ⟨176,[.v lg,.v aC],[cQ],AO⟩:=aL (aj jc (aj Gv (aj Lr aF))) 0x448060d func176
def ab3:aH E ⟨177,[.v cQ,.v cQ],[.bool],x3⟩:=aL (aj wH (aj rn (aj nR aF))) 0x121e428060d func177
def ad1:aH E ⟨91,[.v lg],[hm,aC],Ei⟩:=aL (aj rp (aj ab3 (aj ab2 (aj ab1 (aj nR aF))))) 0x12874d86c44d1fe57ac48d8decb02f466695b586772861e3a90899d7d01def9cda1db9a3f8a9e0152b992392b3730cb94b1e14c0d func91
def R3:aH E ⟨248,[.v lg],[hm],AS⟩:=aL aF 0x5e8002f94f0ae607ee1180abe5323af0a6c0d func248
def R5:aH E ⟨253,[.v (.bc .cX cQ),.v cQ],[pS],p1⟩:=aL (aj nR aF) 0x28482817e0811dc46ac2f97c8e735bc29b060d func253
def R4:aH E ⟨252,[.m ts,.v eP,.v (.bc .cX cQ),.v (.bc .cX cQ)],[],q0⟩:=aL (aj wG (aj nR aF)) 0x1dca69b296314de0035bb1168346fb1bd0015cd3d7a0eb53b029746aee2a494da80da2901c090a2823ec17f1d0fb12f74d8741f18030ddda31ed7b4d0f46a0c0613813980c36cd2c38a1d func252
def acv:aH E ⟨250,[.v aC],[cQ],En⟩:=aL (aj rn aF) 0x10a00d func250
def acw:aH E ⟨251,[.v lg,.v eP,.c 250 [],.v cQ],[(.st tp),pS,aC],IW⟩:=aL (aj ml (aj jc (aj acv (aj wF aF)))) 0x3c02253d0b28d040ec1fedcbcbdf66edb93cd320caaac44ad33c0aaa983280cf45781304961b4dc93bba32bfa61da3250f339b42a076aeb387ae25dea934dcc0ed51cc4e75fabe149a55bac441f06ee1fe84c3c2b1258ca8ab9e0b29467039cc72dd029549a5ab611a499631c3373dd1205e24d51dde14db0e2860d apj
def act:aH E ⟨249,[.v aC,.v (.ptr .bm lg),.v (.ptr .bm aC)],[cQ],Em⟩:=aL aF 0x456fc9ee40fa04cdd4c2860d func249
def acx:aH E ⟨251,[.v lg,.v eP,.c 249 [(.ptr .bm lg),(.ptr .bm aC)],.v cQ],[(.st tp),pS,aC],IX⟩:=aL (aj ml (aj jc (aj wF (aj act aF)))) 0x3c02253d0b28d040ec1fedcbcbdf66edb93cd320caaac44ad33c0aaa983280cf45781304961b4dc93bba32bfa61da3250f339b42a076aeb387ae25dea934dcc0ed51cc4e75fabe149a55bac441f06ee1fe84c3c2b1258ca8ab9e0b29467039cc72dd029549a5ab611a499631c3373dd1205e24d51dde14db0e2860d apj
def ab4:aH E ⟨179,[.m ts,.v aC,.v df],[(.osl (.st l5)),aC],El⟩:=aL (aj jc (aj rp (aj rn (aj R5 (aj R4 (aj R3 (aj acx (aj acw aF)))))))) 0x8a17e9f13b5ca7b18d7c88dcc462e0d89dc852bd336f10312b07c1c01ae6430ff97588c540a68a5848b111a3f33ed1fbc23e351696673a57d80d0da1da9b0a1d func179
def LB:aH E ⟨43,[.v (.bc .cX cQ)],[cQ],vP⟩:=aL (aj wG (aj nR aF)) 0x7ff87ad54ace751cccdd4c0d func43
def R6:aH E ⟨254,[.v aC,.v aC,.v aC,.v cQ,.v cQ,.v (.ptr .bm lg)],[cQ],AQ⟩:=aL (aj wG (aj nR aF)) 0x20d9ce58215ceaf0312807c803333337531648e2860d func254
def acA:aH E ⟨255,[.v aC,.v (.ptr .bm (.fn 254 (.pr (.ptr .bm lg) .nil))),.v (.ptr .bm aC),.v (.ptr .bm aC),.v (.ptr .cX lh)],[cQ],Ej⟩:=aL (aj R6 aF) 0x1acca2bd7f30c1ccdd4c48e2860d func255
def acy:aH E ⟨251,[.v lg,.v eP,.c 255 [(.ptr .bm (.fn 254 (.pr (.ptr .bm lg) .nil))),(.ptr .bm aC),(.ptr .bm aC),(.ptr .cX lh)],.v cQ],[(.st tp),pS,aC],IY⟩:=aL (aj ml (aj jc (aj wF (aj acA aF)))) 0x3c02253d0b28d040ec1fedcbcbdf66edb93cd320caaac44ad33c0aaa983280cf45781304961b4dc93bba32bfa61da3250f339b42a076aeb387ae25dea934dcc0ed51cc4e75fabe149a55bac441f06ee1fe84c3c2b1258ca8ab9e0b29467039cc72dd029549a5ab611a499631c3373dd1205e24d51dde14db0e2860d apj
def acB:aH E ⟨256,[.v aC,.v (.ptr .bm (.fn 254 (.pr (.ptr .bm lg) .nil))),.v (.ptr .bm aC),.v (.ptr .bm aC),.v (.ptr .cX lh)],[cQ],Ek⟩:=aL (aj R6 aF) 0x1acca2bd7f30c1ccdd4c48e2860d func256
def acz:aH E ⟨251,[.v lg,.v eP,.c 256 [(.ptr .bm (.fn 254 (.pr (.ptr .bm lg) .nil))),(.ptr .bm aC),(.ptr .bm aC),(.ptr .cX lh)],.v cQ],[(.st tp),pS,aC],IZ⟩:=aL (aj ml (aj jc (aj wF (aj acB aF)))) 0x3c02253d0b28d040ec1fedcbcbdf66edb93cd320caaac44ad33c0aaa983280cf45781304961b4dc93bba32bfa61da3250f339b42a076aeb387ae25dea934dcc0ed51cc4e75fabe149a55bac441f06ee1fe84c3c2b1258ca8ab9e0b29467039cc72dd029549a5ab611a499631c3373dd1205e24d51dde14db0e2860d apj
def ab6:aH E ⟨180,[.m ts,.v aC,.v aC,.v g2],[(.osl (.st l5)),aC],AP⟩:=aL (aj jc (aj LB (aj R5 (aj R4 (aj R3 (aj acz (aj acy aF))))))) 0x441f07002f9579871b0f10c906426dde6e0b642445f250ad6a25a00158c20dba28c2aedb19f0bde846f9b5cf80ee7435722e99be5f8c0c71b9c55cfa0bb340fd028a29b39b9665a2544f4f28aa2273cad9405f1c5fc6bd8d14d9c9a57a203b3bb82ba4e29de708713896a5dac0637fcef9655be6cda514f1f0792ef04c8a00a8714bd89bd22bd84f6cdd276cba6662e29d078d9bee523413f68e770ab277545666ea6c38a1d func180
def ad2:aH E ⟨92,[.m (.optr Dg),.m ts,.v eP],[aC],Ep⟩:=aL (aj ab6 (aj ab4 (aj Lr aF))) 0x171e5c0d980f51515e05648c885f006b2f2b817b78ebd16f61b5f21037cff7f9f6ec465b5afca99aeb0f0274b42da6574d55ecc7d2882a969372086c6d4982b09de6bc788667afa0d00256992db84704fe7b3b220515d00532acbe6aef44b1f7cfd5de2ae53b762e2abfda9cb4f84a74e97e1b12a5511de6889cee86c35e4f77eb3d1fa5ac441f608ad73789293102b98e4f78b933a2b23ffe65ede668ec4fc5375538069827956650cbbf1a5d7bc8ccf3f84d164ce2763c33c8ffa3f9dd6d2df66a06e9a74846253557504c21661b40a015af6887b5752fae659e01aae447c4184ff49eb8ea989c867e46d180f90d7ce634ea975cf898a708e3014a7452dd94c742f65f1da0d561896e9295e8a65005442470dca2e21d66ac6c1252f0a6c2d func92
def adg:aH E ⟨32,[.m (.optr Dg),.m ts],[aC],Es⟩:=aL (aj ad2 (aj ad1 aF)) 0x163fc65b350f711ab1313745fa6cc48e65bb126cab8bb9f2d9a3c7cca2139475a3f45324a2126a8b8861b048d3 func32
def ad4:aH E ⟨94,[.v aC,.v aC,.v (.ptr .cX eP),.v (.ptr .cX (.st l5))],[aC],vQ⟩:=aL (aj Gy aF) 0xe2860d func94
def acC:aH E ⟨257,[.m hm,.v aC,.v aC,.c 94 [(.ptr .cX eP),(.ptr .cX (.st l5))]],[],Jb⟩:=aL (aj ad4 aF) 0x1fdca235a13867ab29aa870fab9aa2e9dc08648f909af49daaad142e42d1f03d1481b4d72202c048701352334f9cee00a0512ebfc0361cf80528c369ed21e400c0610012180c2c38a1d func257
def ab7:aH E ⟨181,[.m hm,.v aC,.v aC,.v aC,.c 94 [(.ptr .cX eP),(.ptr .cX (.st l5))]],[],EO⟩:=aL (aj acC aF) 0x280de8bcc5d1600222e91546c4c2c0616c4d func181
def ad3:aH E ⟨93,[.m hm,.c 94 [(.ptr .cX eP),(.ptr .cX (.st l5))]],[],EL⟩:=aL (aj Ls (aj ab7 aF)) 0x1d func93
def ado:aH E ⟨33,[.v (.ptr .bm (.st (.pr (.ptr .bm xC) (.pr gO (.pr gO (.pr m6 (.pr r3 (.pr aC .nil)))))))),.v eP],[HY],Er⟩:=aL (aj ad3 aF) 0x37622c99dbbd53e650e39bc32b7df37964a3ed4ce739afd7e2a9a0f1b20eb7c5ae51d3fc8653eb8a856c93457dc5380792403c581723e8b4c16420c4533a8cd14fee71c6f7b35ac52ba2d2dd87d5e8e39fe852d1af2c8ed54f8e0fd7e7d2833a0e65ada68d8a6ccbe70ae89b6c32dc29f8b5e560357e828fd6511fd51cc709680903677eadfbeda87002d6f4fcfd790478cc23cae812c0b892f5a26d2b53fa0fd8645902ce7b290830c5b6b46ff7c10369c8c18d9792808174c48a050d0a62804221b0776f79392b9e9c52c7890bdb1f315637dd10721c1b934d951dc0acf659df0559e1043b30c5f8760865560db0e6c7f35df4cfb0183bcf8eb483d3a93bd583892602884a6bdfb503d8603b65094eaaf00489cb9e461adfdca028257131aa8625e86aae91424eaff9e08ce982b2721836559ba9b060d func33
def ac2:aH E ⟨30,[.v pQ],[.bool],Ec⟩:=aL aF 0x12e0600d func30
def adX:aH E ⟨87,[.v nJ,.c 30 []],[aC],EI⟩:=aL (aj ac2 aF) 0x3195177853060d func87
def ac0:aH E ⟨29,[.v nJ,.c 30 []],[.bool],EF⟩:=aL (aj adX aF) 0x60d func29
def adZ:aH E ⟨9,[.v iz,.v eP,.v nJ],[Da,aC],AM⟩:=aL (aj ado (aj adg (aj ac5 (aj acK (aj R8 (aj ac0 aF)))))) 0xcef6318e7fd78392dec748531049633a55c5a85a6293bf28c4cdf54171bdd1500bef586dbeec3ec4e3743deb8c6abbe6cfb213d45f975b6051a1588ac50c64ccc17e7313fc23aad39b148c0eac263133eea1dc10abc894d2d57d83ef1fd82cee9f6679493077ddde408b5498b32da6eaa2007ab893ba5ae683138b6dd06279d9181f4cf81dc08c4fb96e25357ba1629f99088d058345eedb20dfdda457263ed4d90af549c7d5448172907759c57a78536db6c2860d func9
def ad5:aH E ⟨96,[.v eP],[.bool],I1⟩:=aL aF 0x576840569ebe0e4546fca803730d9ab114c8ffaf0a6c0d func96
def Sn:aH E ⟨97,[.v qM],[hm,.bool],AT⟩:=aL aF 0x186062c8c38d37fc12dad2e7c6fe0367ad04a756aa9e00089a3365fa168b78f7c6be4461eb658c806f73051e642149806e533302c922fe578536c0d func97
def ad6:aH E ⟨98,[.v qM,.v eP],[.bool],Eg⟩:=aL aF 0x259f301340b9ba1fa37e849f6b4d70853c93229cdd3c1682924e1bf1d173eab756259241effc1a8258147968f010a29b060d func98
def LA:aH E ⟨41,[.v qM],[(.osl lh)],x2⟩:=aL (aj jc aF) 0xdbc14a3b8d0fb21de75bc14a3c01e286680a0370a7254506c5130ed865cb731a73f708c2345622d2991ff2578536c0d func41
def Ly:aH E ⟨34,[.v qM],[aC],vO⟩:=aL (aj ml (aj ad6 (aj Sn (aj ad5 (aj LB (aj rp (aj LA aF))))))) 0x628d0a05374ec1c308a7a00fba9710c93a4ab526cca7e76a0f9ea0c96ff0de32fb7937a3df5c8304f419629d0aeee14c948776881bbe89f0904e181e4b7931391e9259175c244eb4043c805a6c0d func34
def adt:aH E ⟨35,[.v iz,.v eP],[mC,aC],As⟩:=aL (aj Sm (aj R8 (aj Gn aF))) 0xab01c88fd0ca25029f5f43ffa3dfe96303841675a0afb65b6010750fa44cfd3fabe2c7fcedafbfae5c3cf845fdfd0d22249f8d491f45b6b16c92e3014fc239182aa2f6ee2a03827e09a15e683f8af31a562ddf98e83807e7713ac75115eab5d0b8d1213a642f1758cc2e8fe1dc2a8071e5614275a58d8474ac869566ea6db060d func35
def abA:aH E ⟨103,[.v qM,.v aC],[(.mp cQ)],x4⟩:=aL (aj jc (aj rn aF)) 0x32b647cf3dc03b7f2f01f84ca576b8b5963b1dc461da42997c843c29b060d func103
def abz:aH E ⟨101,[.v (.fd .cX cQ),.v (.fd .cX cQ),.v cQ,.v (.ptr .cX aC),.m (.optr nH)],[],tN⟩:=aL (aj nR aF) 0x954aa404854eb059573fe74d6227c952b379e42cd5ad51fec68e08978a1968a513b1ab9f947ea5723d11033836a96bf3fe37c3d95f027aa428ca69b34ab25db0013bf2955b233bc89f45a85df4be7e07d4ee85ba8b2f69a1e895a8d98c21ce127b21874fa5b0e2860d func101
def Vf:jO:=⟨36,[.v qM],[mC,aC],AN⟩
def adu:aH E Vf:=
 .q (aj Sn (aj LA (aj Ly (aj uH (aj abA (aj abz aF)))))) (.k [0] (.n (.n (.n (.n (.n (.n (.n (.t .none (.n (.o (.k [1,8,41] (.p ⟨[mS 2,mS 5,mS 6,(7,.s (.eG 101 [(.ref 5 []),(.ref 6 [])])),mS 40,CJ 42],[(2,(.optr mC)),(5,(.optr aC)),(6,(.optr nH)),(40,(.osl lh))]⟩ (.x 0 ⟨[mS 2,mS 5,mS 6],[(2,(.optr mC)),(5,(.optr aC)),(6,(.optr nH))]⟩) (.n (.n (.t (.x [42] ⟨[mS 2,mS 5,mS 6,(7,.s (.eG 101 [(.ref 5 []),(.ref 6 [])])),mS 40],[(2,(.optr mC)),(5,(.optr aC)),(6,(.optr nH)),(40,(.osl lh))]⟩) (.o (.n (.t .none (.d [.a,.a,.a,.a,.a,.c [3330] [3328],.c [3330] [3328,3329]]) (.n (.n (.t .none (.t .none (.d [.a,.a,.a,.a,.a,.a,.c [4418] [4416],.c [4418] [4416,4417]]) .l) .l)))))) .l))))))) (.n (.t .none (.n (.o (.k [96] (.p ⟨[mS 2,mS 14,(95,.s (.ref 6 [.deref])),CJ 97],[(2,(.optr mC)),(6,(.optr nH)),(14,(.optr mC))]⟩ (.x 2 ⟨[mS 2,mS 14],[(2,(.optr mC)),(14,(.optr mC))]⟩) (.n (.n (.t .none (.o (.n (.d [.b [898,912],.b [912],.b [384],.b [384],.c [6722] [6720],.c [6784,6722,912,914] [6784,899],.b [898,912],.c [6784,912,914] [896,6784,6785]]))) .l))))))) .l))))))))))) func36 call36 [(1,(.ptr .bm qM)),(2,mC),(21,mC),(5,aC),(28,mC),(32,nH),(6,nH),(8,gO),(12,(.fd .bm cQ)),(13,(.fd .bm cQ)),(14,mC),(94,mC)] [(8,37000),(12,52),(13,69)]
def aby:aH E ⟨10,[.v iz,.v qM],[cQ,aC],Ed⟩:=aL (aj wH (aj wG (aj Lz (aj rn (aj adu (aj adt (aj Ly aF))))))) 0xcaf688eeeba1443cabca601a0290a23a29ca214a032a4a0de22336373e12c944bb229dba2f0aa985fa0db543dbd152674039c472630bc16174afb7b55c833de48eb9987a9291148c416029cc052d1b62caa0bdbab64829b3c29b6db060d func10
def abB:aH E ⟨11,[.v qM],[zZ,aC],Ee⟩:=aL (aj LB (aj rp (aj LA (aj Ly aF)))) 0x3efa82df13735fcc003ba854b53e968aab863ff361f2e34f8b1b9c5373638eea9a6a2e63dec67bcb6e332308d6914a422943fa536f6693878536c0d func11
def abG:aH E ⟨122,[.v gz,.v gz],[.bool],Je⟩:=aL aF 0x620a429b060d func122
def adz:aH E ⟨48,[.v dc,.v dc],[.bool],Jd⟩:=aL (aj abG aF) 0xd1da28060d func48
def abL:aH E ⟨13,[.v cQ,.v cQ],[.bool],ET⟩:=aL (aj adz aF) 0x121e428060d func13
def xg:jO:=⟨3,[.v g2,.v aC,.v eP],[.bool],Jm⟩
def ac1:aH E xg:=aL (aj adZ (aj adP (aj adG (aj adB (aj LC (aj adv (aj abL (aj RC (aj abB (aj aby aF)))))))))) 0x14a724aac69555ce5e8d4001a72654b400a56314aae42f08a8484db6db6db0a0d func3
end
def bb (a:X):Z:=4294967296^a
def al:amv->Z
 |[]=>0
 |x::a=>x+4294967296*al a
def a1 (b:amv):Prop:=∀a∈b,0<=a/\a<4294967296
def a1.nil:a1 []:=λ_ a=>by cases a
theorem a1.cons:a1 (e::b)↔(0<=e/\e<4294967296)/\a1 b:=by
 constructor
 ·exactλd=>⟨d e (jQ ..),λc a=>d c (gH _ a)⟩
 rintro⟨f,g⟩ c a;rcases fH.1 a with rfl|a
 ·exact f
 exact g c a
def a1.append {d:amv}:a1 (b++d)↔a1 b/\a1 d:=by
 constructor
 ·exactλe=>⟨λc a=>e c (oW _ a),λc a=>e c (kB _ a)⟩
 rintro⟨f,g⟩ c a;rcases hl.1 a with a|a
 ·exact f c a
 exact g c a
def a1.snoc (a:a1 b) (c:0<=e) (d:e<4294967296):a1 (b++[e]):=
 a1.append.2 ⟨a,a1.cons.2 ⟨⟨c,d⟩,a1.nil⟩⟩
def a1.take {a:amv} (b:a1 a) (d:X):a1 (a.take d):=λe c=>b e (ve c)
def a1.drop {a:amv} (b:a1 a) (d:X):a1 (a.drop d):=λe c=>b e (List.mem_of_mem_drop c)
theorem a1.n2 (a:X):a1 (bM a (0:Z)):=λc b=>by grind
def a1.set {c:amv} (d:a1 c) {e:X} {b:Z} (g:0<=b) (h:b<4294967296):a1 (c.set e b):=λf a=>by
 rcases List.mem_or_eq_of_mem_set a with a|rfl
 ·exact d f a
 omega
def a1.get (a:a1 b) {n:X} (c:n<b.length):0<=b[n]/\b[n]<4294967296:=a _ (cT c)
theorem hy (a:X):0<bb a:=l0 ab
theorem iV (a:X):bb (a+1)=4294967296*bb a:=by unfold bb;omega
theorem xd (a b:X):bb (a+b)=bb a*bb b:=nB ..
theorem zz:bb 0=1:=rfl
theorem qn (a b:amv):al (a++b)=al a+bb a.length*al b:=by
 induction a with
 |nil=>simp[al,zz]
 |cons d a c=>
  grind [aqn,iV,al]
theorem rH (a:amv) (b:Z):al (a++[b])=al a+bb a.length*b:=by grind [qn,al]
theorem gB {l:amv} (a:a1 l):0<=al l:=by
 induction l with
 |nil=>exact anE _
 |cons c l b=>
  grind [a1.cons,al]
theorem it (a:a1 b):al b<bb b.length:=by
 induction b with
 |nil=>decide
 |cons d b c=>
  grind [aqn,iV,a1.cons,al]
theorem j3 (c:a<b.length):al (b.take (a+1))=al (b.take a)+bb a*b[a]:=by grind [rH,am5,aoL,amG,bZ]
theorem rI (b:amv) (a:X) (c:a<=b.length):al b=al (b.take a)+bb a*al (b.drop a):=by grind [qn,am5,aoL,List.take_append_drop]
theorem nZ (c:a<b.length):al (b.drop a)=b[a]+4294967296*al (b.drop (a+1)):=by rw[HJ c];rfl
theorem s3 (a:X):al (bM a (0:Z))=0:=by
 induction a with
 |zero=>rfl
 |succ a b=>grind [al]
theorem oJ (d:a<b.length) (c:Z):al (b.set a c)=al b+bb a*(c-b[a]):=by
 induction b generalizing a with
 |nil=>grind
 |cons f b e=>
  grind [zz,iV,al]
def wc:X->X->amv
 |0,_=>[]
 |f+1,a=>if a=0 then[] else((a %4294967296:X):Z)::wc f (a/4294967296)
def fb (a:X):amv:=wc (Nat.log2 a+1) a
def fK (b:amv):Prop:=∀a,b.getLast?=Y a->a≠0
theorem X2:∀{a n:X},n<2^a->a1 (wc a n)/\al (wc a n)=n/\fK (wc a n):=by
 intro a
 induction a with
 |zero=>
  intro n b;obtain rfl:n=0:=aa;exact⟨a1.nil,bq,λc b=>by cases b⟩
 |succ a i=>
  intro n b;unfold wc;split
  ·rename_i g;subst g;exact⟨a1.nil,bq,λc b=>by cases b⟩
  rename_i k;obtain⟨h,j,d⟩:=i (n:=n/4294967296) aa;refine⟨a1.cons.2 ⟨⟨aa,aa⟩,h⟩,?_,?_⟩
  ·grind [al]
  intro c f;cases e:wc a (n/4294967296) with
  |nil=>
   grind [List.getLast?_singleton,anV,al]
  |cons m l=>
   rw[e,List.getLast?_cons_cons] at f;rw[e] at d;exact d c f
def Jz (a:X):a1 (fb a)/\al (fb a)=a/\fK (fb a):=X2 Nat.lt_log2_self
theorem q2 (a:X):a1 (fb a):=(Jz a).1
theorem tX (a:X):al (fb a)=a:=(Jz a).2.1
def yn (a:X):fK (fb a):=(Jz a).2.2
def fK.tail (a:fK (e::b)):fK b:=λd c=>by
 cases b with
 |nil=>cases c
 |cons f b=>exact a d ae
theorem fK.zero (e:a1 b) (c:fK b) (d:al b=0):b=[]:=by
 induction b with
 |nil=>rfl
 |cons h b g=>
  obtain⟨⟨i,j⟩,a⟩:=a1.cons.1 e;have k:=gB a;simp only[al] at d;have f:h=0:=aa;have:=g a c.tail aa;subst this;subst f;exact absurd rfl (c 0 bq)
theorem fK.uniq:∀{a b:amv},a1 a->a1 b->fK a->fK b->al a=al b->a=b
 |[],b,_,e,_,g,c=>(fK.zero e g (by rw[<-c];rfl)).symm
 |a,[],d,_,f,_,c=>fK.zero d f (by rw[c];rfl)
 |x::a,j::b,d,e,f,g,c=>by obtain⟨⟨k,l⟩,h⟩:=a1.cons.1 d;obtain⟨⟨m,n⟩,i⟩:=a1.cons.1 e;simp only[al] at c;have o:x=j:=aa;have:=fK.uniq h i f.tail g.tail aa;grind
def X5 (c:a1 b) (d:fK b) (e:al b=a):b=fb a:=
 fK.uniq c (q2 a) d (yn a) (by rw[e,tX])
def fK.eq (a:a1 b) (c:fK b):b=fb (al b).toNat:=
 X5 a c (by have:=gB a;omega)
theorem fK.low (c:a1 b) (f:fK b) (a:b≠[]):bb (b.length-1)<=al b:=by have d:=List.dropLast_concat_getLast a;have i:=f (b.getLast a) (List.getLast?_eq_some_getLast a);have j:=c _ (List.getLast_mem a);rw[<-d,rH];have k:=gB (l:=b.dropLast) (λh g=>c h (List.dropLast_subset _ g));have e:1<=b.getLast a:=aa;have m:=mw e (gT (hy b.dropLast.length));grind
theorem aeP {c:X} (e:a<c):bb a<bb c:=by obtain⟨b,rfl⟩:∃b,c=a+(b+1):=⟨c-a-1,aa⟩;rw[xd,iV];have f:=hy b;have d:=hy a;have g:1*bb a<(4294967296*bb b)*bb a:=xj aa d;grind
theorem qe {m n:X} (b:m<=n):bb m<=bb n:=by
 rcases c6 m n with a|a
 ·exact gT (aeP a)
 grind
theorem tW {n k:X} (d:(n:Z)<bb k):(fb n).length<=k:=by
 by_cases c:fb n=[]
 ·grind
 have a:=fK.low (q2 n) (yn n) c;rw[tX] at a;rcases c6 k (fb n).length with b|b
 ·have:=qe (m:=k) (n:=(fb n).length-1) aa;omega
 omega
theorem Pg (a:X):(a:Z)<bb (fb a).length:=by have:=it (q2 a);grind [tX]
def Pj:fb 0=[]:=rfl
theorem X4:fb a=[]↔a=0:=by
 constructor
 ·grind [tX,al]
 rintro rfl;rfl
def jL (a:amv):amv:=fb (al a).toNat
theorem Uq (f:a1 b) (j:a<=b.length) (h:∀c,a<=c->(i:c<b.length)->b[c]=0) (g:fK (b.take a)):b.take a=jL b:=by have d:al b=al (b.take a):=(by have e:b.drop a=bM (b.length-a) 0:=(by refine aoJ ac λc d e=>?_;grind);grind [rI,s3]);rw[jL,d];exact fK.eq (f.take a) g
def Un (a:amv):a1 (jL a):=q2 _
def Uo (a:amv):fK (jL a):=yn _
theorem Up (a:a1 b):al (jL b)=al b:=by have:=gB a;grind [tX,jL]
theorem uS {b:bp f} (c:a<b.length):b.take a++[b[a]]=b.take (a+1):=by rw[j6,cH c];rfl
theorem B8:b.Pairwise (· < ·)↔∀d,(e:d+1<b.length)->b[d]<b[d+1]:=by
 constructor
 ·intro e d k;exact(iw.1 e) d (d+1) aa k aa
 intro e;rw[iw];have m:∀c a (f:a<b.length) (g:a+c+1<b.length),b[a]<b[a+c+1]:=by
  intro c
  induction c with
  |zero=>intro a f g;exact e a g
  |succ c l=>
   intro a f g;have i:=l a f aa;have j:=e (a+c+1) aa;exact Int.lt_trans i j
 intro a h f g n;obtain⟨c,rfl⟩:∃c,h=a+c+1:=⟨h-a-1,aa⟩;exact m c a f g
def UZ (b:amv) (r:b.length<4611686018427387904):ES (b,())=Y (bw (b.Pairwise (· < ·)),()):=by
 rw[<-ah.eq_iff];unfold ES;simp only[ah.fu];by_cases k:b.length=0
 ·have:b=[]:=List.length_eq_zero_iff.1 k;subst this;refine ah.loop (λo=>o=(1,())) (λ_=>0) rfl ?_;rintro _ rfl;simp[ah.ai]
 refine ah.for (i0:=1) b.length (λc _=>∀a,(j:a+1<b.length)->a+1<c->b[a]<b[a+1]) rfl (λa _ j=>by omega) aa ?_ ?_
 ·rintro c _ p l e;simp only[ah.fN,ah.fu,ah.ai,ah.lL];have i:bN.wrap ((c:Z)-1)=((c-1:X):Z):=(by rw[wrap64 aa aa];omega);rw[i];refine⟨λ_=>⟨l,?_⟩,λf=>?_⟩
  ·rw[ah.lL];refine⟨aa,?_⟩;refine⟨λm=>?_,λh=>⟨jM aa,λa d q=>?_⟩⟩
   ·have:¬b.Pairwise (· < ·):=λn=>by
     have:=B8.1 n (c-1) aa;simp only[(aa:c-1+1=c)] at this;simp at m;omega
    simp[this]
   rcases c6 (a+1) c with g|g
   ·exact e a d g
   obtain rfl:c=a+1:=aa;simp at h;exact h
  simp at f;omega
 intro s e;simp only[ah.fN,ah.fu,ah.ai];refine⟨λf=>by simp at f,λ_=>?_⟩;have:b.Pairwise (· < ·):=B8.2 (λa d=>e a d d);simp[this]
end Go.j5
end
