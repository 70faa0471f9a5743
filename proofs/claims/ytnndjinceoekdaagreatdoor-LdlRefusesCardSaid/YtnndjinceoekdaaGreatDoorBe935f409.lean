/-
  Parts of the proof: Dn20, Dn21, TwS, Dn20b, Dn22, Dn24a, Dn24, Dn25, Dn25b, Dn25c, Tw25, Ok25, Pa1, Pl2, Pl3: the framework (Fw), pure forms (Dn), plain laws (Pl, Th), calls of functions (Ok).
-/
import Derived.Lib.SlicesCompact
import Derived.RangeFuncBox
import Derived.RangeFuncLeaves
import Derived.Shelf.Abstract
import Derived.WalkKit
import Derived.OwnWalkIn
import Derived.TacticsInMore
import Derived.LoopNIn
import Derived.LoopIn
import Derived.Maps.AppendAt
import Derived.Shelf.Slices.CompactI
import Derived.Lib.OwnBridge
import Derived.Test.YtnndjinceoekdaaGreatDoorProg
import Derived.KernelRfl
import Derived.Test.YtnndjinceoekdaaGreatDoorBd9d2b002

set_option linter.all false
set_option maxHeartbeats 1000000
open _root_ renaming Nat->X,Int->Z,Unit->bw,cond->bB,Option->bA,Bool->bD,List->bp,congrArg->b4,rfl->bq,False->b7,and_true->cf,Array->bX
open Go renaming World->bH,Fence->ama,CallsIn->al3,callsIn_of_wp->amL,undef->bZ,Exit->ca,Code->cA
open Decidable renaming decide->bz
open Option renaming bind->bE,some->Y,none->bv
open Bool renaming false->br,true->bt
open Go.IntKind renaming i64->bO,u64->bG,u32->ch,u8->aoP
open List renaming replicate->bJ,range->bK,length_take->alj,take_add_one->ct,getElem?_eq_getElem->bV,take_append_drop->amC
open Nat renaming ble->b5,beq->bL,blt->cg,reduceAdd->amr,reduceSub->ams,mul_one->amE,min_eq_left->amt
open Go.Lib renaming compact->al2
open Go.Proofs.Tryz renaming prog->cr,underlying23->apK,func317->aoQ,ntmps317->apL,func266->anT
open Go.RowKit.Below renaming refl->am7
open Go.Value renaming int->alz,oneCell'->alw
open Go.Boxed renaming new->apM
open Go.World renaming cell?->aml
open Go.l0.ao renaming size->alA
open Go.Sort renaming ahead->apN
open Int renaming le_refl->amb
open Option.some renaming injEq->amD
open Go.l0.ah renaming eq_iff->bQ,fi->b0,fe->bY,ai->bu,lh->ale,loop->als
open Go.l0 renaming wrap64->cx
noncomputable section
namespace Go.l0
variable{a:ak7}{b:X}{c:Type}{d:Value}{e:eW->X->Prop}{f:bH}
def DT:ef->ak3:=λ(e,h,_)=>(loop (σ:=et) (ρ:=ei) (λ(f,c,_)=>bif bz (c<((e.length:X):Z)) then(bE (α:=ev⊕dP) ((aq e c).bind λd=>bE (α:=bw⊕(ev⊕dP)) (bB (bz (d<=f)==br) (bB (bz (d>=h)) (Y (.inr (.inr (.inr (.inr (br,())))))) (Y (.inl ()))) (Y (.inr (.inr (.inr (.inr (br,()))))))) λa=>match a with
 |.inl _=>(Y (.inl (d,())))
 |.inr b=>Y b) λa=>match a with
 |.inl (g,_)=>(Y (.inl (g,bO.wrap (c+(1:Z)),())))
 |.inr b=>Y b) else Y (.inr (.inl ()))) ((-1:Z),(0:Z),())).bind λa=>match a with
 |.inl _=>(Y (bt,()))
 |.inr b=>Y b
def tb:ev->ak3:=λ(a,_)=>Y ((a !=a),())
def vt:et->ak3:=λ(a,b,_)=>(tb (a,())).bind λ(c,_)=>(bB (c==bt) ((tb (b,())).bind λ(aU,_)=>bB ((!aU)==br) (Y (bz (a<b),())) (Y (bt,()))) (Y (bz (a<b),())))
def ED:ev->ak3:=λ(a,_)=>Y ((a !=a),())
def vC:ef->bA ep:=λ(b,e,_)=>(loop (σ:=et) (ρ:=ev) (λ(c,d,_)=>bB (bz (c<d)) ((eT bG (bG.wrap (bO.wrap (c+d))) (1:Z)).bind λf=>(aq b (bO.wrap f)).bind λk=>(vt (k,e,())).bind λ(i,_)=>bB i (Y (.inl (bO.wrap (bO.wrap f+(1:Z)),d,()))) (Y (.inl (c,bO.wrap f,())))) (Y (.inr (c,())))) ((0:Z),((b.length:X):Z),())).bind λ(a,_)=>(bB (bz (a<((b.length:X):Z))==bt) ((aq b a).bind λl=>bB ((l==e)==br) ((aq b a).bind λj=>(ED (j,())).bind λ(g,_)=>bB (g==bt) ((ED (e,())).bind λ(h,_)=>Y (a,h,())) (Y (a,br,()))) (Y (a,bt,()))) (Y (a,br,())))
def x2:(eb×Z×Z×bw)->ak3:=λ(a,c,d,_)=>(aq a.1 c).bind λe=>(vC (e,d,())).bind λ(_,b,_)=>Y (b,())
def Av:dV->ak4:=λ(a,_)=>(bif bz ((((a.1).length:X):Z)>(200:Z)) then Y ((6:Z),()) else((loop (σ:=ev) (ρ:=en) (λ(d,_)=>bif bz (d<(((a.1).length:X):Z)) then(bE (α:=bw⊕dU) ((aq a.1 d).bind λj=>(DT (j,(((a.1).length:X):Z),())).bind λ(aU,_)=>bB ((!aU)==br) ((x2 (a,d,d,())).bind λ(i,_)=>bB i (Y (.inr (.inr (.inr ((1:Z),()))))) (Y (.inl ()))) (Y (.inr (.inr (.inr ((1:Z),())))))) λb=>match b with
 |.inl _=>(Y (.inl (bO.wrap (d+(1:Z)),())))
 |.inr c=>Y c) else Y (.inr (.inl ()))) ((0:Z),())).bind λb=>match b with
 |.inl _=>((loop (σ:=ev) (ρ:=en) (λ(e,_)=>bif bz (e<(((a.1).length:X):Z)) then((aq a.1 e).bind λg=>(loop (σ:=ev) (ρ:=dM) (λ(f,_)=>bB (bz (f<((g.length:X):Z))) ((aq g f).bind λk=>(x2 (a,k,e,())).bind λ(h,_)=>bB (!h) (Y (.inr (.inr (.inr (.inr ((1:Z),())))))) (Y (.inl (bO.wrap (f+(1:Z)),())))) (Y (.inr (.inl ())))) ((0:Z),())).bind λb=>match b with
 |.inl _=>(Y (.inl (bO.wrap (e+(1:Z)),())))
 |.inr c=>Y c) else Y (.inr (.inl ()))) ((0:Z),())).bind λb=>match b with
 |.inl _=>(Y ((0:Z),()))
 |.inr c=>Y c)
 |.inr c=>Y c))
def rN:(ak7×ak7×bw)->ak3:=λ(b,c,_)=>(bif ((b.length:X):Z)!=((c.length:X):Z) then Y (br,()) else((loop (σ:=ev) (ρ:=ei) (λ(a,_)=>bB (bz (a<((b.length:X):Z))) ((aq b a).bind λf=>(aq c a).bind λg=>bB (f !=g) (Y (.inr (.inr (br,())))) (Y (.inl (bO.wrap (a+(1:Z)),())))) (Y (.inr (.inl ())))) ((0:Z),())).bind λd=>match d with
 |.inl _=>(Y (bt,()))
 |.inr e=>Y e))
def AT:er->ak3:=λ(b,_)=>(loop (σ:=ev) (ρ:=ei) (λ(a,_)=>bB (bz (a<((b.length:X):Z))) ((aq b a).bind λe=>(aq b (bO.wrap (a-(1:Z)))).bind λf=>bB (bz (e<=f)) (Y (.inr (.inr (br,())))) (Y (.inl (bO.wrap (a+(1:Z)),())))) (Y (.inr (.inl ())))) ((1:Z),())).bind λc=>match c with
 |.inl _=>(Y (bt,()))
 |.inr d=>Y d
def A6:dZ->bA dV:=λ(f,_)=>(loop (σ:=dw) (ρ:=dx) (λ(b,l,i,_)=>bif bz (b<((f.length:X):Z)) then(loop (σ:=(Z×eb×eb×ak7×bw)) (ρ:=dt) (λ(a,e,c,d,_)=>bif bz (a<((f.length:X):Z)) then bE (α:=dt) (bE (α:=(bD×eb×eb×ak7×bw)) (bB ((b !=a)==bt) ((aq f b).bind λt=>(aq t a).bind λu=>bB (u==br) ((aq f a).bind λv=>(aq v b).bind λw=>Y (w,e,c,d,())) (Y (bt,e,c,d,()))) (Y (br,e,c,d,()))) λ(q,m,j,h,_)=>
 bB q ((cI (h.length+([a]).length)).bind λ_=>Y (m,j,(h++[a]),())) (Y (m,j,h,()))) λ(r,n,p,_)=>Y (.inl (bO.wrap (a+(1:Z)),r,n,p,())) else Y (.inr (e,c,d,()))) ((0:Z),l,i,[],())).bind λ(s,g,k,_)=>(cI ((g.1).length+([k]).length)).bind λ_=>Y (.inl (bO.wrap (b+(1:Z)),s,((g.1++[k]),g.2),())) else Y (.inr (l,i,()))) ((0:Z),([],()),([],()),())).bind λ(_,o,_)=>Y (o,())
def tq:ef->ak3:=λ(b,e,_)=>(loop (σ:=ev) (ρ:=ei) (λ(a,_)=>bB (bz (a<((b.length:X):Z))) ((aq b a).bind λf=>bB (f==e) (Y (.inr (.inr (bt,())))) (Y (.inl (bO.wrap (a+(1:Z)),())))) (Y (.inr (.inl ())))) ((0:Z),())).bind λc=>match c with
 |.inl _=>(Y (br,()))
 |.inr d=>Y d
def vH:dV->ak4:=λ(a,_)=>(bif bz ((((a.1).length:X):Z)>(200:Z)) then Y ((6:Z),()) else((loop (σ:=ev) (ρ:=en) (λ(b,_)=>bif bz (b<(((a.1).length:X):Z)) then(aq a.1 b).bind λh=>(AT (h,())).bind λ(aU,_)=>bif !aU then Y (.inr (.inr ((1:Z),()))) else((loop (σ:=ev) (ρ:=dM) (λ(f,_)=>(aq a.1 b).bind λi=>bif bz (f<((i.length:X):Z)) then(bE (α:=bw⊕dz) ((aq a.1 b).bind λj=>(aq j f).bind λe=>bB (bz (e<(0:Z))==br) (bB (bz (e>=(((a.1).length:X):Z))==br) (bB ((e==b)==br) ((aq a.1 e).bind λk=>(tq (k,b,())).bind λ(g,_)=>bB (!g) (Y (.inr (.inr (.inr (.inr (.inr ((1:Z),()))))))) (Y (.inl ()))) (Y (.inr (.inr (.inr (.inr (.inr ((1:Z),())))))))) (Y (.inr (.inr (.inr (.inr (.inr ((1:Z),())))))))) (Y (.inr (.inr (.inr (.inr (.inr ((1:Z),())))))))) λc=>match c with
 |.inl _=>(Y (.inl (bO.wrap (f+(1:Z)),())))
 |.inr d=>Y d) else Y (.inr (.inl ()))) ((0:Z),())).bind λc=>match c with
 |.inl _=>(Y (.inl (bO.wrap (b+(1:Z)),())))
 |.inr d=>Y d) else Y (.inr (.inl ()))) ((0:Z),())).bind λc=>match c with
 |.inl _=>(Y ((0:Z),()))
 |.inr d=>Y d))
def E2:ef->ak3:=λ(b,e,_)=>(loop (σ:=ev) (ρ:=ei) (λ(a,_)=>bif bz (a<((b.length:X):Z)) then(bE (α:=bw⊕dT) ((aq b a).bind λf=>bB (bz (f<(0:Z))==br) ((aq b a).bind λg=>bB (bz (g>=e)) (Y (.inr (.inr (.inr (br,()))))) (Y (.inl ()))) (Y (.inr (.inr (.inr (br,())))))) λc=>match c with
 |.inl _=>(Y (.inl (bO.wrap (a+(1:Z)),())))
 |.inr d=>Y d) else Y (.inr (.inl ()))) ((0:Z),())).bind λc=>match c with
 |.inl _=>(Y (bt,()))
 |.inr d=>Y d
def E3:er->ak3:=λ(b,_)=>(loop (σ:=ev) (ρ:=ei) (λ(a,_)=>bB (bz (a<((b.length:X):Z))) (((Y (0)).bind λc=>(gF a).bind λd=>(he c d b.length).map λ_=>(c,d)).bind λe=>(aq b a).bind λi=>(tq (((b.take e.2).drop e.1),i,())).bind λ(h,_)=>bB h (Y (.inr (.inr (bt,())))) (Y (.inl (bO.wrap (a+(1:Z)),())))) (Y (.inr (.inl ())))) ((0:Z),())).bind λf=>match f with
 |.inl _=>(Y (br,()))
 |.inr g=>Y g
def A7:dV->bA dZ:=λ(a,_)=>(loop (σ:=dX) (ρ:=dZ) (λ(c,g,_)=>bB (bz (c<(((a.1).length:X):Z))) ((fS (((a.1).length:X):Z) (((a.1).length:X):Z)).bind λj=>(loop (σ:=(Z×eB×ak5×bw)) (ρ:=(eB×ak5×bw)) (λ(d,h,b,_)=>(aq a.1 c).bind λm=>bB (bz (d<((m.length:X):Z))) ((aq a.1 c).bind λn=>(aq n d).bind λl=>(bm b.length l).bind λe=>(ba b e λ_=>Y (b.set e bt)).bind λo=>Y (.inl (bO.wrap (d+(1:Z)),h,o,()))) (Y (.inr (h,b,())))) ((0:Z),g,bJ j br,())).bind λ(f,i,_)=>(cI (f.length+([i]).length)).bind λ_=>Y (.inl (bO.wrap (c+(1:Z)),(f++[i]),()))) (Y (.inr (g,())))) ((0:Z),[],())).bind λ(k,_)=>
 Y (k,())
def A8:ev->bA dZ:=λ(a,_)=>(loop (σ:=dX) (ρ:=dZ) (λ(c,b,_)=>bB (bz (c<a)) ((fS a a).bind λd=>(cI (b.length+([bJ d br]).length)).bind λ_=>Y (.inl (bO.wrap (c+(1:Z)),(b++[bJ d br]),()))) (Y (.inr (b,())))) ((0:Z),[],())).bind λ(e,_)=>Y (e,())
def E4:dK->bA dR:=λ(e,a,_)=>(vH (e,())).bind λ(j,_)=>(bif j !=(0:Z) then Y (([],()),j,()) else(E2 (a,(((e.1).length:X):Z),())).bind λ(aU,_)=>bif !aU then Y (([],()),(3:Z),()) else(E3 (a,())).bind λ(r,_)=>bif r then Y (([],()),(90:Z),()) else(A7 (e,())).bind λ(s,_)=>(A8 (((a.length:X):Z),())).bind λ(t,_)=>(loop (σ:=dA) (ρ:=dC) (λ(c,l,i,_)=>bif bz (c<((a.length:X):Z)) then(loop (σ:=dA) (ρ:=dC) (λ(d,k,b,_)=>bif bz (d<((a.length:X):Z)) then(bm b.length c).bind λf=>(aq a c).bind λv=>
 (aq s v).bind λw=>(aq a d).bind λx=>(aq w x).bind λy=>((ba b f λm=>Y m).bind λn=>bm n.length d).bind λh=>(ba b f λg=>(ba g h λ_=>Y (g.set h y)).map λz=>b.set f z).bind λA=>Y (.inl (bO.wrap (d+(1:Z)),k,A,())) else Y (.inr (k,b,()))) ((0:Z),l,i,())).bind λ(u,o,_)=>Y (.inl (bO.wrap (c+(1:Z)),u,o,())) else Y (.inr (l,i,()))) ((0:Z),([],()),t,())).bind λ(_,p,_)=>(A6 (p,())).bind λ(q,_)=>Y (q,(0:Z),()))
def E5:dV->bA dF:=λ(a,_)=>(A7 (a,())).bind λ(c,_)=>(fS (((a.1).length:X):Z) (((a.1).length:X):Z)).bind λb=>Y ((c,(bJ b br,())),())
def Ba:(bA dQ×Z×bw)->bA er:=λ(b,h,_)=>(loop (σ:=eg) (ρ:=er) (λ(a,d,_)=>b.bind λj=>bB (bz (a<(((j.1).length:X):Z))) (bE (α:=er) (bE (α:=(bD×ak7×bw)) (b.bind λk=>(aq k.1 h).bind λl=>(aq l a).bind λm=>bB (m==bt) (b.bind λn=>(aq n.2.1 a).bind λi=>Y ((!i),d,())) (Y (br,d,()))) λ(g,c,_)=>bB g ((cI (c.length+([a]).length)).bind λ_=>Y ((c++[a]),())) (Y (c,()))) λ(e,_)=>Y (.inl (bO.wrap (a+(1:Z)),e,()))) (Y (.inr (d,())))) ((0:Z),[],())).bind λ(f,_)=>Y (f,())
def A9:(dQ×Z×bw)->bA dF:=λ(h,l,_)=>(Ba (Y h,l,())).bind λ(e,_)=>(loop (σ:=dD) (ρ:=dF) (λ(c,i,_)=>bif bz (c<((e.length:X):Z)) then(loop (σ:=dD) (ρ:=dF) (λ(d,a,_)=>bif bz (d<((e.length:X):Z)) then bE (α:=dF) (bB (c !=d) ((aq e c).bind λr=>(bm (a.1).length r).bind λf=>(aq e d).bind λq=>((ba a.1 f λm=>Y m).bind λn=>bm n.length q).bind λj=>((ba a.1 f λg=>(ba g j λ_=>Y (g.set j bt)).map λs=>(a.1).set f s).map λt=>(t,a.2)).bind λu=>Y (u,())) (Y (a,()))) λ(o,_)=>
 Y (.inl (bO.wrap (d+(1:Z)),o,())) else Y (.inr (a,()))) ((0:Z),i,())).bind λ(p,_)=>Y (.inl (bO.wrap (c+(1:Z)),p,())) else Y (.inr (i,()))) ((0:Z),h,())).bind λ(b,_)=>(bm (b.2.1).length l).bind λk=>(((ba b.2.1 k λ_=>Y ((b.2.1).set k bt)).map λv=>(v,b.2.2)).map λw=>(b.1,w)).bind λx=>Y (x,())
def Bb:dV->bA (akW×Z×bw):=λ(b,_)=>(vH (b,())).bind λ(e,_)=>(bB (e !=(0:Z)) (Y ([],e,())) ((E5 (b,())).bind λ(i,_)=>(loop (σ:=(Z×dQ×akW×bw)) (ρ:=eb) (λ(a,f,c,_)=>bB (bz (a<(((b.1).length:X):Z))) ((Ba (Y f,a,())).bind λ(d,_)=>(cI (([a]).length+d.length)).bind λ_=>(cI (c.length+([([a]++d)]).length)).bind λ_=>(A9 (f,a,())).bind λ(g,_)=>Y (.inl (bO.wrap (a+(1:Z)),g,(c++[([a]++d)]),()))) (Y (.inr (c,())))) ((0:Z),i,[],())).bind λ(h,_)=>Y (h,(0:Z),())))
def El:et->bA et:=λ(b,a,_)=>(eT bG b (32:Z)).bind λc=>(eT bG a (32:Z)).bind λd=>(eT bG (bG.wrap (e3 bG b (4294967295:Z)*e3 bG a (4294967295:Z))) (32:Z)).bind λe=>(eT bG (bG.wrap (bG.wrap (c*e3 bG a (4294967295:Z))+e)) (32:Z)).bind λf=>(eT bG (bG.wrap (e3 bG (bG.wrap (bG.wrap (c*e3 bG a (4294967295:Z))+e)) (4294967295:Z)+bG.wrap (e3 bG b (4294967295:Z)*d))) (32:Z)).bind λg=>Y (bG.wrap (bG.wrap (bG.wrap (c*d)+f)+g),bG.wrap (b*a),())
def IJ:et->bA et:=λ(b,c,_)=>(El (b,c,())).bind λ(a,aU,_)=>Y (a,aU,())
def EA:ef->bA er:=λ(f,g,_)=>bE (α:=bw) (bB (bz (g<(0:Z))) bv (Y ())) λ_=>(IJ (bG.wrap ((f.length:X):Z),bG.wrap g,())).bind λ(m,aU,_)=>bE (α:=bw) (bE (α:=eu) (bB (bz (m>(0:Z))==br) (Y (bz (aU>(9223372036854775807:Z)),())) (Y (bt,()))) λ(n,_)=>bB n bv (Y ())) λ_=>(fS (bO.wrap aU) (bO.wrap aU)).bind λe=>(loop (σ:=eg) (ρ:=er) (λ(b,a,_)=>bif bz (b<((a.length:X):Z)) then((gF b).bind λk=>(Y (a.length)).bind λh=>(he k h a.length).bind λ_=>(oi a.length).map λ_=>(k,h)).bind λc=>((Y (0)).bind λi=>(gF b).bind λj=>(he i j a.length).bind λ_=>(oi a.length).map λ_=>(i,j)).bind λd=>Y (.inl (bO.wrap (b+((min ((a.take d.2).drop d.1).length (c.2-c.1):X):Z)),jS a ((a.take d.2).drop d.1) c.1 c.2,())) else
 Y (.inr (a,()))) (((min f.length ((bJ e (0:Z)).length-0):X):Z),jS (bJ e (0:Z)) f 0 (bJ e (0:Z)).length,())).bind λ(l,_)=>Y (l,())
def Ff:dB->bA ed:=λ(g,h,_)=>(loop (σ:=eg) (ρ:=dL) (λ(e,b,_)=>bif bz (e<((g.length:X):Z)) then(bE (α:=er⊕du) ((aq g e).bind λa=>bE (α:=(ak7×dS×bw)⊕(er⊕du)) (bE (α:=(bD×ak7×dS×bw)) (bB ((a.1 !=((b.length:X):Z))==br) (bB (bz (a.2.1<=a.1)==br) (Y (bz (a.2.1>h),b,a,())) (Y (bt,b,a,()))) (Y (bt,b,a,()))) λ(o,m,l,_)=>bB o (Y (.inr (.inr (.inr (.inr ([],br,())))))) (Y (.inl (m,l,())))) λc=>match c with
 |.inl (i,f,_)=>((EA ([e],bO.wrap (f.2.1-f.1),())).bind λ(k,_)=>(cI (i.length+k.length)).bind λ_=>Y (.inl ((i++k),())))
 |.inr d=>Y d) λc=>match c with
 |.inl (n,_)=>(Y (.inl (bO.wrap (e+(1:Z)),n,())))
 |.inr d=>Y d) else Y (.inr (.inl (b,())))) ((0:Z),[],())).bind λc=>match c with
 |.inl (j,_)=>(Y (j,(((j.length:X):Z)==h),()))
 |.inr d=>Y d
def Fh:(dS×Z×bw)->ak3:=λ(a,g,_)=>(bif bz ((((a.2.2.1).length:X):Z)<bO.wrap (a.2.1-a.1)) then Y (br,()) else((loop (σ:=ev) (ρ:=ei) (λ(b,_)=>bif bz (b<(((a.2.2.1).length:X):Z)) then(bE (α:=bw⊕dT) ((aq a.2.2.1 b).bind λc=>bE (α:=eu) (bB (bz (b<bO.wrap (a.2.1-a.1))==bt) (Y ((c !=bO.wrap (a.1+b)),())) (Y (br,()))) λ(f,_)=>bB f (bB f (Y (.inr (.inr (.inr (br,()))))) (Y (.inl ()))) (bB (bz (b>=bO.wrap (a.2.1-a.1))==bt) (bB (bz (c<a.2.1)==br) (bB (bz (c>=g)==br) ((aq a.2.2.1 (bO.wrap (b-(1:Z)))).bind λh=>bB (bz (c<=h)) (Y (.inr (.inr (.inr (br,()))))) (Y (.inl ()))) (Y (.inr (.inr (.inr (br,())))))) (Y (.inr (.inr (.inr (br,())))))) (Y (.inl ())))) λd=>match d with
 |.inl _=>(Y (.inl (bO.wrap (b+(1:Z)),())))
 |.inr e=>Y e) else Y (.inr (.inl ()))) ((0:Z),())).bind λd=>match d with
 |.inl _=>(Y (bt,()))
 |.inr e=>Y e))
def Fg:(bp dS×ak7×dS×bw)->ak3:=λ(f,g,a,_)=>((gF (bO.wrap (a.2.1-a.1))).bind λd=>(Y ((a.2.2.1).length)).bind λe=>(he d e (a.2.2.1).length).map λ_=>(d,e)).bind λb=>(bif (((((a.2.2.1).take b.2).drop b.1).length:X):Z)==(0:Z) then Y ((a.2.2.2.1==(-1:Z)),()) else(aq (((a.2.2.1).take b.2).drop b.1) (0:Z)).bind λm=>(aq g m).bind λn=>bif a.2.2.2.1 !=n then Y (br,()) else((loop (σ:=ev) (ρ:=ei) (λ(c,_)=>bB (bz (c<(((((a.2.2.1).take b.2).drop b.1).length:X):Z))) ((aq (((a.2.2.1).take b.2).drop b.1) c).bind λk=>(aq f a.2.2.2.1).bind λl=>(vC (l.2.2.1,k,())).bind λ(_,j,_)=>bB (!j) (Y (.inr (.inr (br,())))) (Y (.inl (bO.wrap (c+(1:Z)),())))) (Y (.inr (.inl ())))) ((0:Z),())).bind λh=>match h with
 |.inl _=>(Y (bt,()))
 |.inr i=>Y i))
def I2:(dS×ak1×bw)->ak3:=λ(a,b,_)=>b.bind λc=>(Fh (a,c,())).bind λ(aU,_)=>Y ((!aU),())
def IN:dr->ak4:=λ(b,c,_)=>(loop (σ:=ev) (ρ:=en) (λ(a,_)=>bB (bz (a<((b.length:X):Z))) ((aq b a).bind λg=>(I2 (g,c.1,())).bind λ(f,_)=>bB f (Y (.inr (.inr (a,())))) (Y (.inl (bO.wrap (a+(1:Z)),())))) (Y (.inr (.inl ())))) ((0:Z),())).bind λd=>match d with
 |.inl _=>(Y ((-1:Z),()))
 |.inr e=>Y e
def Eu:dr->ak3:=λ(c,a,_)=>(IN (c,(a.1,()),())).bind λ(b,_)=>Y (bz (b>=(0:Z)),())
def I3:(dS×bA dH×ez×bw)->ak3:=λ(a,b,c,_)=>b.bind λe=>c.bind λf=>(Fg (e,f,a,())).bind λ(d,_)=>Y ((!d),())
def IP:dn->ak4:=λ(c,b,_)=>(loop (σ:=ev) (ρ:=en) (λ(a,_)=>bB (bz (a<((c.length:X):Z))) ((aq c a).bind λg=>(I3 (g,b.1,b.2.1,())).bind λ(f,_)=>bB f (Y (.inr (.inr (a,())))) (Y (.inl (bO.wrap (a+(1:Z)),())))) (Y (.inr (.inl ())))) ((0:Z),())).bind λd=>match d with
 |.inl _=>(Y ((-1:Z),()))
 |.inr e=>Y e
def Ev:dn->ak3:=λ(c,a,_)=>(IP (c,(a.1,a.2.1,()),())).bind λ(b,_)=>Y (bz (b>=(0:Z)),())
def vQ:dq->ak4:=λ(c,d,_)=>(Av (c,())).bind λ(i,_)=>(bif i !=(0:Z) then Y (i,()) else((Ff (d,(((c.1).length:X):Z),())).bind λ(aU,p,_)=>bE (α:=er⊕ev) (bB ((!p)==br) ((Eu (d,(Y (((c.1).length:X):Z),()),())).bind λ(q,_)=>bB q (Y (.inr ((211:Z),()))) (Y (.inl (aU,())))) (Y (.inr ((211:Z),())))) λa=>match a with
 |.inl (h,_)=>((Ev (d,(Y d,Y h,()),())).bind λ(r,_)=>bif r then Y ((211:Z),()) else((loop (σ:=eg) (ρ:=en) (λ(e,l,_)=>bif bz (e<(((c.1).length:X):Z)) then((aq c.1 e).bind λj=>(loop (σ:=eg) (ρ:=dv) (λ(g,f,_)=>bif bz (g<((j.length:X):Z)) then(bE (α:=er⊕(eg⊕dv)) ((aq j g).bind λk=>bB (bz (k>e)) (Y (.inl (f,()))) ((aq f k).bind λs=>(aq d s).bind λt=>(vC (t.2.2.1,e,())).bind λ(_,o,_)=>bB (!o) (Y (.inr (.inr (.inr (.inr (.inr ((211:Z),()))))))) (Y (.inl (f,()))))) λa=>match a with
 |.inl (m,_)=>(Y (.inl (bO.wrap (g+(1:Z)),m,())))
 |.inr b=>Y b) else Y (.inr (.inl (f,())))) ((0:Z),l,())).bind λa=>match a with
 |.inl (n,_)=>(Y (.inl (bO.wrap (e+(1:Z)),n,())))
 |.inr b=>Y b) else Y (.inr (.inl ()))) ((0:Z),h,())).bind λa=>match a with
 |.inl _=>(Y ((0:Z),()))
 |.inr b=>Y b))
 |.inr b=>Y b))
def Bc:dB->ak4:=λ(b,e,_)=>(loop (σ:=ev) (ρ:=en) (λ(a,_)=>bif bz (a<((b.length:X):Z)) then(bE (α:=bw⊕dU) (bE (α:=eu) ((aq b a).bind λg=>bB (bz (g.1<=e)==bt) ((aq b a).bind λh=>Y (bz (e<h.2.1),())) (Y (br,()))) λ(f,_)=>bB f (Y (.inr (.inr (.inr (a,()))))) (Y (.inl ()))) λc=>match c with
 |.inl _=>(Y (.inl (bO.wrap (a+(1:Z)),())))
 |.inr d=>Y d) else Y (.inr (.inl ()))) ((0:Z),())).bind λc=>match c with
 |.inl _=>(Y ((-1:Z),()))
 |.inr d=>Y d
def yn:dq->ak4:=λ(f,c,_)=>(vH (f,())).bind λ(o,_)=>(bif o !=(0:Z) then Y (o,()) else((loop (σ:=et) (ρ:=ea) (λ(k,h,_)=>bif bz (h<((c.length:X):Z)) then(bE (α:=ev⊕dI) (bE (α:=bw⊕(ev⊕dI)) ((aq c h).bind λJ=>bB ((J.1 !=k)==br) ((aq c h).bind λK=>bB (bz (K.2.1<=k)==br) ((aq c h).bind λL=>bB (bz (L.2.1>(((f.1).length:X):Z))) (Y (.inr (.inr (.inr (.inr ((211:Z),())))))) (Y (.inl ()))) (Y (.inr (.inr (.inr (.inr ((211:Z),()))))))) (Y (.inr (.inr (.inr (.inr ((211:Z),()))))))) λa=>match a with
 |.inl _=>((aq c h).bind λM=>Y (.inl (M.2.1,())))
 |.inr b=>Y b) λa=>match a with
 |.inl (q,_)=>(Y (.inl (q,bO.wrap (h+(1:Z)),())))
 |.inr b=>Y b) else Y (.inr (.inl (k,())))) ((0:Z),(0:Z),())).bind λa=>match a with
 |.inl (r,_)=>(bif r !=(((f.1).length:X):Z) then Y ((211:Z),()) else((loop (σ:=ev) (ρ:=en) (λ(e,_)=>bif bz (e<((c.length:X):Z)) then(bE (α:=bw⊕dU) ((aq c e).bind λd=>(aq c e).bind λi=>(aq c e).bind λj=>bE (α:=bw⊕dM) ((AT (d.2.2.1,())).bind λ(s,_)=>bif (!s)==br then bif bz ((((d.2.2.1).length:X):Z)<bO.wrap (i.2.1-j.1))==br then(aq d.2.2.1 (0:Z)).bind λx=>(aq c e).bind λy=>bif (x !=y.1)==br then(aq d.2.2.1 (bO.wrap (bO.wrap (i.2.1-j.1)-(1:Z)))).bind λz=>(aq c e).bind λA=>bif (z !=bO.wrap (A.2.1-(1:Z)))==br then(aq d.2.2.1 (bO.wrap ((((d.2.2.1).length:X):Z)-(1:Z)))).bind λB=>bif bz (B>=(((f.1).length:X):Z)) then Y (.inr (.inr (.inr (.inr ((211:Z),()))))) else
 Y (.inl ()) else Y (.inr (.inr (.inr (.inr ((211:Z),()))))) else Y (.inr (.inr (.inr (.inr ((211:Z),()))))) else Y (.inr (.inr (.inr (.inr ((211:Z),()))))) else Y (.inr (.inr (.inr (.inr ((211:Z),())))))) λa=>match a with
 |.inl _=>(bE (α:=ev) (bB (bz ((((d.2.2.1).length:X):Z)>bO.wrap (i.2.1-j.1))) ((aq d.2.2.1 (bO.wrap (i.2.1-j.1))).bind λC=>(Bc (c,C,())).bind λ(t,_)=>Y (t,())) (Y ((-1:Z),()))) λ(n,_)=>(aq c e).bind λD=>bif D.2.2.2.1 !=n then Y (.inr (.inr (.inr ((211:Z),())))) else((loop (σ:=ev) (ρ:=dE) (λ(l,_)=>bB (bz (l<(((d.2.2.1).length:X):Z))) ((aq c n).bind λE=>(aq d.2.2.1 l).bind λF=>(tq (E.2.2.1,F,())).bind λ(u,_)=>bB (!u) (Y (.inr (.inr (.inr (.inr (.inr ((211:Z),()))))))) (Y (.inl (bO.wrap (l+(1:Z)),())))) (Y (.inr (.inl ())))) (bO.wrap (i.2.1-j.1),())).bind λa=>match a with
 |.inl _=>(Y (.inl ()))
 |.inr b=>Y b))
 |.inr b=>Y b) λa=>match a with
 |.inl _=>(Y (.inl (bO.wrap (e+(1:Z)),())))
 |.inr b=>Y b) else Y (.inr (.inl ()))) ((0:Z),())).bind λa=>match a with
 |.inl _=>((loop (σ:=ev) (ρ:=en) (λ(g,_)=>bif bz (g<(((f.1).length:X):Z)) then((loop (σ:=ev) (ρ:=dM) (λ(m,_)=>(aq f.1 g).bind λG=>bif bz (m<((G.length:X):Z)) then(bE (α:=bw⊕dz) ((aq f.1 g).bind λH=>(aq H m).bind λp=>bB (bz (p>g)==bt) ((Bc (c,g,())).bind λ(v,_)=>(aq c v).bind λI=>(tq (I.2.2.1,p,())).bind λ(w,_)=>bB (!w) (Y (.inr (.inr (.inr (.inr (.inr ((211:Z),()))))))) (Y (.inl ()))) (Y (.inl ()))) λa=>match a with
 |.inl _=>(Y (.inl (bO.wrap (m+(1:Z)),())))
 |.inr b=>Y b) else Y (.inr (.inl ()))) ((0:Z),())).bind λa=>match a with
 |.inl _=>(Y (.inl (bO.wrap (g+(1:Z)),())))
 |.inr b=>Y b) else Y (.inr (.inl ()))) ((0:Z),())).bind λa=>match a with
 |.inl _=>(Y ((0:Z),()))
 |.inr b=>Y b)
 |.inr b=>Y b))
 |.inr b=>Y b))
def EI:ef->ak3:=λ(b,c,_)=>(bif ((b.length:X):Z)!=c then Y (br,()) else((fS c c).bind λk=>(loop (σ:=ee) (ρ:=ei) (λ(a,g,_)=>bif bz (a<c) then(bE (α:=eo⊕dG) (bE (α:=eo⊕(eo⊕dG)) ((aq b a).bind λo=>bB (bz (o<(0:Z))==br) ((aq b a).bind λp=>bB (bz (p>=c)==br) ((aq b a).bind λq=>(bm g.length q).bind λj=>(ba g j λi=>Y i).bind λm=>bB m (Y (.inr (.inr (.inr (.inr (br,())))))) (Y (.inl (g,())))) (Y (.inr (.inr (.inr (.inr (br,()))))))) (Y (.inr (.inr (.inr (.inr (br,()))))))) λd=>match d with
 |.inl (f,_)=>((aq b a).bind λn=>(bm f.length n).bind λh=>(ba f h λ_=>Y (f.set h bt)).bind λr=>Y (.inl (r,())))
 |.inr e=>Y e) λd=>match d with
 |.inl (l,_)=>(Y (.inl (bO.wrap (a+(1:Z)),l,())))
 |.inr e=>Y e) else Y (.inr (.inl ()))) ((0:Z),bJ k br,())).bind λd=>match d with
 |.inl _=>(Y (bt,()))
 |.inr e=>Y e))
def rS:dK->bA dR:=λ(a,b,_)=>(vH (a,())).bind λ(c,_)=>(bB (c !=(0:Z)) (Y (([],()),c,())) (bB (((b.length:X):Z)!=(((a.1).length:X):Z)) (Y (([],()),(2:Z),())) ((EI (b,(((a.1).length:X):Z),())).bind λ(aU,_)=>bB (!aU) (Y (([],()),(90:Z),())) ((E4 (a,b,())).bind λ(d,e,_)=>Y (d,e,())))))
section
open Go
def CH (c:ak7->ez) (a:ak7):bA bD:=bif b5 a.length 1000000 then(c a).bind λb=>bif b5 b.length 1000000 then Y (bz ((al2 b).length<a.length)) else bv else bv
end
def DW:dR->ak3:=λ(b,a,_)=>(bB (bz (a>=(0:Z))==bt) (Y (bz (a<(((b.1).length:X):Z)),())) (Y (br,())))
def ya:ev->ak4:=λ(a,_)=>bE (α:=et) (bB (bz (a>=(65536:Z))) ((eT ch a (16:Z)).bind λg=>Y (g,(16:Z),())) (Y (a,(0:Z),()))) λ(b,c,_)=>bE (α:=et) (bB (bz (b>=(256:Z))) ((eT ch b (8:Z)).bind λh=>Y (h,bO.wrap (c+(8:Z)),())) (Y (b,c,()))) λ(f,e,_)=>(q5 F5 (aoP.wrap f)).bind λd=>Y (bO.wrap (e+bO.wrap d),())
def Ov:ev->ak4:=λ(a,_)=>bE (α:=et) (bB (bz (a>=(4294967296:Z))) ((eT bG a (32:Z)).bind λi=>Y (i,(32:Z),())) (Y (a,(0:Z),()))) λ(b,d,_)=>bE (α:=et) (bB (bz (b>=(65536:Z))) ((eT bG b (16:Z)).bind λj=>Y (j,bO.wrap (d+(16:Z)),())) (Y (b,d,()))) λ(c,e,_)=>bE (α:=et) (bB (bz (c>=(256:Z))) ((eT bG c (8:Z)).bind λk=>Y (k,bO.wrap (e+(8:Z)),())) (Y (c,e,()))) λ(h,g,_)=>(q5 F5 (aoP.wrap h)).bind λf=>Y (bO.wrap (g+bO.wrap f),())
def Ek:ev->ak4:=λ(b,_)=>(Ov (b,())).bind λ(a,_)=>Y (a,())
def EC:(ak7×Z×Z×bw)->bA er:=λ(k,f,j,_)=>(loop (σ:=eg) (ρ:=er) (λ(d,g,_)=>bif bz (d<j) then(loop (σ:=eg) (ρ:=er) (λ(a,c,_)=>bE (α:=er⊕dN) (bB (bz (a>f)==bt) ((bm c.length a).bind λu=>(ba c u λq=>Y q).bind λy=>(bm c.length (bO.wrap (a-(1:Z)))).bind λr=>(ba c r λn=>Y n).bind λz=>(vt (y,z,())).bind λ(x,_)=>bB x (Y (.inl (c,()))) (Y (.inr (.inr (c,()))))) (Y (.inr (.inr (c,()))))) λv=>match v with
 |.inl (b,_)=>((bm b.length (bO.wrap (a-(1:Z)))).bind λs=>(ba b s λo=>Y o).bind λA=>(bm b.length a).bind λt=>(ba b t λp=>Y p).bind λB=>(bm b.length a).bind λh=>(ba b h λ_=>Y (b.set h A)).bind λe=>(bm e.length (bO.wrap (a-(1:Z)))).bind λi=>(ba e i λ_=>Y (e.set i B)).bind λC=>Y (.inl (bO.wrap (a-(1:Z)),C,())))
 |.inr w=>Y w) (d,g,())).bind λ(l,_)=>Y (.inl (bO.wrap (d+(1:Z)),l,())) else Y (.inr (g,()))) (bO.wrap (f+(1:Z)),k,())).bind λ(m,_)=>Y (m,())
def EF:(ak7×Z×Z×Z×bw)->bA er:=λ(e,c,d,g,_)=>(loop (σ:=(Z×Z×Z×bD×bD×ak7×bw)) (ρ:=er) (λ(a,b,_,_,_,f,_)=>bB (bz (bO.wrap (b-a)<=(12:Z))) ((EC (f,a,b,())).bind λ(h,_)=>Y (.inr (h,()))) bv) (c,d,g,bt,bt,e,())).bind Y
def AP:er->bA er:=λ(a,_)=>(Ek (bG.wrap ((a.length:X):Z),())).bind λ(c,_)=>(EF (a,(0:Z),((a.length:X):Z),c,())).bind λ(b,_)=>Y (b,())
def DV:ak7×bw->ak3:=λa=>(CH (λc=>(AP (c,())).map λd=>d.1) a.1).map λb=>(b,())
def IC:(Z×bA eb×bw)->ak3:=λ(b,a,_)=>a.bind λc=>(DW (c,b,())).bind λ(aU,_)=>Y ((!aU),())
def IQ:dy->ak4:=λ(b,c,_)=>(loop (σ:=ev) (ρ:=en) (λ(a,_)=>bB (bz (a<((b.length:X):Z))) ((aq b a).bind λg=>(IC (g,c.1,())).bind λ(f,_)=>bB f (Y (.inr (.inr (a,())))) (Y (.inl (bO.wrap (a+(1:Z)),())))) (Y (.inr (.inl ())))) ((0:Z),())).bind λd=>match d with
 |.inl _=>(Y ((-1:Z),()))
 |.inr e=>Y e
def Ex:dy->ak3:=λ(c,a,_)=>(IQ (c,(a.1,()),())).bind λ(b,_)=>Y (bz (b>=(0:Z)),())
def DR:dK->ak4:=λ(a,b,_)=>(Av (a,())).bind λ(c,_)=>(bB (c !=(0:Z)) (Y (c,())) (bB (((b.length:X):Z)!=(((a.1).length:X):Z)) (Y ((2:Z),())) ((Ex (b,(Y a,()),())).bind λ(aU,_)=>bB (aU==br) ((DV (b,())).bind λ(d,_)=>bB d (Y ((90:Z),())) (Y ((0:Z),()))) (Y ((90:Z),())))))
def Ax:ev->bA dZ:=λ(a,_)=>(fS a a).bind λe=>(loop (σ:=dX) (ρ:=dZ) (λ(c,b,_)=>bB (bz (c<((((bJ e []):eB).length:X):Z))) ((fS a a).bind λf=>(bm b.length c).bind λd=>(ba b d λ_=>Y (b.set d (bJ f br))).bind λh=>Y (.inl (bO.wrap (c+(1:Z)),h,()))) (Y (.inr (b,())))) ((0:Z),bJ e [],())).bind λ(g,_)=>Y (g,())
def AA:(eB×Z×Z×bw)->bA dZ:=λ(a,d,e,_)=>(bB (d !=e) ((bm a.length d).bind λb=>(bm a.length e).bind λc=>((ba a b λm=>Y m).bind λn=>bm n.length e).bind λi=>(ba a b λg=>(ba g i λ_=>Y (g.set i bt)).map λo=>a.set b o).bind λf=>((ba f c λk=>Y k).bind λl=>bm l.length d).bind λj=>(ba f c λh=>(ba h j λ_=>Y (h.set j bt)).map λp=>f.set c p).bind λq=>Y (q,())) (Y (a,())))
def DS:(eB×Z×bw)->bA er:=λ(f,g,_)=>(aq f g).bind λc=>(loop (σ:=eg) (ρ:=er) (λ(a,b,_)=>bB (bz (a<((c.length:X):Z))) (bE (α:=er) ((aq c a).bind λh=>bB h ((cI (b.length+([a]).length)).bind λ_=>Y ((b++[a]),())) (Y (b,()))) λ(d,_)=>Y (.inl (bO.wrap (a+(1:Z)),d,()))) (Y (.inr (b,())))) ((0:Z),[],())).bind λ(e,_)=>Y (e,())
def Az:dZ->bA dV:=λ(b,_)=>(fS ((b.length:X):Z) ((b.length:X):Z)).bind λg=>(loop (σ:=dw) (ρ:=dx) (λ(c,e,a,_)=>bB (bz (c<((b.length:X):Z))) ((DS (b,c,())).bind λ(h,_)=>(bm (a.1).length c).bind λd=>((ba a.1 d λ_=>Y ((a.1).set d h)).map λi=>(i,a.2)).bind λj=>Y (.inl (bO.wrap (c+(1:Z)),e,j,()))) (Y (.inr (e,a,())))) ((0:Z),([],()),(bJ g [],()),())).bind λ(_,f,_)=>Y (f,())
def DU:dK->bA dV:=λ(k,a,_)=>(Ax (((a.length:X):Z),())).bind λ(o,_)=>(loop (σ:=dA) (ρ:=dC) (λ(b,i,j,_)=>bif bz (b<((a.length:X):Z)) then(aq a b).bind λv=>((Y (0)).bind λg=>(gF b).bind λh=>(he g h a.length).map λ_=>(g,h)).bind λc=>(loop (σ:=dA) (ρ:=dC) (λ(d,e,f,_)=>bif bz (d<((((a.take c.2).drop c.1).length:X):Z)) then bE (α:=dC) ((aq ((a.take c.2).drop c.1) d).bind λu=>(x2 (k,v,u,())).bind λ(m,_)=>bB m ((AA (f,b,d,())).bind λ(l,_)=>Y (e,l,())) (Y (e,f,()))) λ(p,q,_)=>
 Y (.inl (bO.wrap (d+(1:Z)),p,q,())) else Y (.inr (e,f,()))) ((0:Z),i,j,())).bind λ(r,s,_)=>Y (.inl (bO.wrap (b+(1:Z)),r,s,())) else Y (.inr (i,j,()))) ((0:Z),([],()),o,())).bind λ(_,t,_)=>(Az (t,())).bind λ(n,_)=>Y (n,())
def Ay:dK->bA dR:=λ(a,b,_)=>(DR (a,b,())).bind λ(c,_)=>(bB (c !=(0:Z)) (Y (([],()),c,())) ((DU (a,b,())).bind λ(aU,_)=>Y (aU,(0:Z),())))
def vr:et->ak4:=λ(a,b,_)=>(tb (a,())).bind λ(c,_)=>(tb (b,())).bind λ(aU,_)=>(bB c (bB aU (Y ((0:Z),())) (Y ((-1:Z),()))) (bB aU (Y ((1:Z),())) (bB (bz (a<b)) (Y ((-1:Z),())) (bB (bz (a>b)) (Y ((1:Z),())) (Y ((0:Z),()))))))
def DE:er->ak4:=λ(b,_)=>(loop (σ:=ev) (ρ:=en) (λ(a,_)=>bB (bz (a<((b.length:X):Z))) ((aq b a).bind λc=>bB (c !=(0:Z)) (Y (.inr (.inr (c,())))) (Y (.inl (bO.wrap (a+(1:Z)),())))) (Y (.inr (.inl ())))) ((0:Z),())).bind λd=>match d with
 |.inl _=>(Y ((0:Z),()))
 |.inr e=>Y e
abbrev bj:Type:=ak7
abbrev hD:Type:=(bj×bw)
abbrev eU:Type:=(bD×hD)
abbrev cS:Type:=ev
abbrev e0:Type:=(bD×(eU×cS))
abbrev HY:Type:=(bj×(bj×hD))
abbrev nz:Type:=(bp e0)
abbrev sV:Type:=(Z×(Z×(nz×bw)))
abbrev lB:Type:=(bp (Z×(Z×cS)))
abbrev dh:Type:=(Z×(Z×HY))
abbrev gP:Type:=eu
abbrev rF:Type:=(Z×((bp bj×bw)×(bp (bA (bp (Z×e0)×X))×bw)))
abbrev iu:Type:=(bp (Z×(Z×(bj×cS))))
abbrev gL:Type:=(e0×bw)
abbrev g2:Type:=(eU×bw)
abbrev j7:Type:=(e0×e0×bw)
abbrev jh:Type:=(Z×bj×bw)
abbrev gQ:Type:=ak5
abbrev mv:Type:=(bw⊕gP)
abbrev Dk:Type:=(Z×sV×sV×bw)
abbrev j8:Type:=(lB×bw)
abbrev z6:Type:=(sV×sV×bw)
abbrev VH:Type:=(lB×Z×Z×Z×bw×bw)
abbrev oP:Type:=(Z×lB×bw)
abbrev j9:Type:=(bj×bj×bw)
abbrev lA:Type:=(eU×eU×bw)
abbrev nX:Type:=(bw⊕cS)
abbrev nY:Type:=(bj×Z×bw)
abbrev nA:Type:=et
abbrev Nc:Type:=(sV×Z×bw)
abbrev kN:Type:=(iu×bp gQ×bw)
abbrev z7:Type:=(Z×Z×lB×bw)
abbrev xD:Type:=(bD×(eU×(Z×gP)))
abbrev qq:Type:=(Z×Z×bj×bw)
abbrev qr:Type:=(eU×Z×bw)
abbrev nB:Type:=(dh×bw)
def m2:hD->bA hD:=λ(c,_)=>(loop (σ:=cS) (ρ:=cS) (λ(a,_)=>bE (α:=bw⊕(cS⊕cS)) (bB (bz (a>0)==bt) ((aq c (az (a-1))).bind λj=>bB (j==0) (Y (.inl ())) (Y (.inr (.inr (a,()))))) (Y (.inr (.inr (a,()))))) λh=>match h with
 |.inl _=>(Y (.inl (az (a-1),())))
 |.inr i=>Y i) (ar c,())).bind λ(f,_)=>(loop (σ:=jh) (ρ:=hD) (λ(b,d,_)=>bB (bz (b<f)) ((aq c b).bind λe=>(cI (d.length+([e]).length)).bind λ_=>Y (.inl (aO b,(d++[e]),()))) (Y (.inr (d,())))) (0,[],())).bind λ(g,_)=>Y (g,())
def mB:(bD×bj×bw)->bA g2:=λ(c,b,_)=>(m2 (b,())).bind λ(a,_)=>(bB (c==bt) (Y ((bz (ar a>0),(a,())),())) (Y ((br,(a,())),())))
def tr:cS->bA g2:=λ(a,_)=>bE (α:=(Z×eU×bw)) (bB (bz (a<0)) (Y (aR (aR (az (0-aO a))+1),(br,([],())),())) (Y (aR a,(br,([],())),()))) λ(b,_,_)=>(eT bG b 32).bind λd=>(mB (bz (a<0),[eD b,eD d],())).bind λ(c,_)=>Y (c,())
def qE:g2->bA g2:=λ(a,_)=>(mB (a.1,a.2.1,())).bind λ(b,_)=>Y (b,())
def tu:bw->bA gL:=λ_=>Y ((bt,((br,([],())),((0:Z),()))),())
def yb:cS->bA cS:=λ(a,_)=>(bB (a==0) (Y (32,())) ((eT ch (eD (e3 ch a (eD (0-a))*125613361)) 27).bind λb=>(aq qw b).bind λc=>Y (az c,())))
def rP:g2->bA cS:=λ(c,_)=>(m2 (c.2.1,())).bind λ(b,_)=>(loop (σ:=cS) (ρ:=nX) (λ(a,_)=>bB (bz (a<ar b)) ((aq b a).bind λg=>bB (g !=0) ((aq b a).bind λh=>(yb (h,())).bind λ(f,_)=>Y (.inr (.inr (az (az (32*a)+f),())))) (Y (.inl (aO a,())))) (Y (.inr (.inl ())))) (0,())).bind λd=>match d with
 |.inl _=>(Y (0,()))
 |.inr e=>Y e
def rO:g2->bA g2:=λ(a,_)=>(mB (br,a.2.1,())).bind λ(b,_)=>Y (b,())
def yi:nY->bA hD:=λ(f,g,_)=>(kT bO g 32).bind λi=>(fS i i).bind λj=>(loop (σ:=qq) (ρ:=jh) (λ(a,b,c,_)=>bB (bz (b<ar f)) ((aq f b).bind λl=>(jq g 32).bind λm=>(iz bG (aR l) m).bind λd=>(cI (c.length+([eD (gM bG a d)]).length)).bind λ_=>(eT bG (gM bG a d) 32).bind λk=>Y (.inl (k,aO b,(c++[eD (gM bG a d)]),()))) (Y (.inr (a,c,())))) (0,0,bJ j (0:Z),())).bind λ(e,h,_)=>(cI (h.length+([eD e]).length)).bind λ_=>Y ((h++[eD e]),())
def yj:nY->bA (bj×bD×bw):=λ(b,d,_)=>(loop (σ:=es) (ρ:=gP) (λ(e,c,_)=>bE (α:=bw⊕(es⊕gP)) ((kT bO d 32).bind λw=>bB (bz (c<w)==bt) (bB (bz (c<ar b)) (Y (.inl ())) (Y (.inr (.inr (e,()))))) (Y (.inr (.inr (e,()))))) λt=>match t with
 |.inl _=>(bE (α:=gP) (bB (e==br) ((aq b c).bind λx=>Y ((x !=0),())) (Y (bt,()))) λ(m,_)=>Y (.inl (m,aO c,())))
 |.inr u=>Y u) (br,0,())).bind λ(n,_)=>(jq d 32).bind λj=>(kT bO d 32).bind λy=>(loop (σ:=(bD×Z×bj×bw)) (ρ:=(bD×bj×bw)) (λ(f,a,g,_)=>bif bz (a<ar b) then bE (α:=(bD×bj×bw)) ((aq b a).bind λk=>bE (α:=jh) (bB (bz (aO a<ar b)) ((aq b (aO a)).bind λz=>(iz bG (aR z) 32).bind λA=>Y (gM bG (aR k) A,g,())) (Y (aR k,g,()))) λ(v,h,_)=>bE (α:=(bD×bj×bw)) ((kT bO d 32).bind λB=>bB ((a==B)==bt) ((aq b a).bind λC=>(iz ch 1 j).bind λD=>bB (e3 ch C (eD (D-1))!=0) (Y (bt,h,())) (Y (f,h,()))) (Y (f,h,()))) λ(o,i,_)=>(eT bG v j).bind λl=>(cI (i.length+([eD l]).length)).bind λ_=>Y (o,(i++[eD l]),())) λ(p,r,_)=>Y (.inl (p,aO a,r,())) else
 Y (.inr (f,g,()))) (n,y,[],())).bind λ(q,s,_)=>Y (s,q,())
def AW:g2->bA g2:=λ(a,_)=>(mB ((!a.1),a.2.1,())).bind λ(b,_)=>Y (b,())
def EP:j9->bA hD:=λ(b,c,_)=>(loop (σ:=qq) (ρ:=jh) (λ(e,a,f,_)=>bB (bz (a<(if(ar c)>ar b then ar c else ar b))) (bE (α:=jh) (bE (α:=jh) (bB (bz (a<ar b)) ((aq b a).bind λo=>Y (aR (e+aR o),f,())) (Y (e,f,()))) λ(h,k,_)=>bE (α:=jh) (bB (bz (a<ar c)) ((aq c a).bind λp=>Y (aR (h+aR p),k,())) (Y (h,k,()))) λ(d,i,_)=>(cI (i.length+([eD d]).length)).bind λ_=>(eT bG d 32).bind λn=>Y (n,(i++[eD d]),())) λ(l,m,_)=>Y (.inl (l,aO a,m,()))) (Y (.inr (e,f,())))) (0,0,[],())).bind λ(g,j,_)=>(cI (j.length+([eD g]).length)).bind λ_=>Y ((j++[eD g]),())
def AX:j9->bA cS:=λ(b,c,_)=>(bif ar b !=ar c then bB (bz (ar b<ar c)) (Y ((-1:Z),())) (Y (1,())) else((loop (σ:=cS) (ρ:=nX) (λ(a,_)=>bB (bz (a>=0)) ((aq b a).bind λf=>(aq c a).bind λg=>bB (f !=g) ((aq b a).bind λh=>(aq c a).bind λi=>bB (bz (h<i)) (Y (.inr (.inr ((-1:Z),())))) (Y (.inr (.inr (1,()))))) (Y (.inl (az (a-1),())))) (Y (.inr (.inl ())))) (az (ar b-1),())).bind λd=>match d with
 |.inl _=>(Y (0,()))
 |.inr e=>Y e))
def AY:j9->bA hD:=λ(d,e,_)=>(loop (σ:=qq) (ρ:=hD) (λ(f,a,b,_)=>bB (bz (a<ar d)) (bE (α:=jh) ((aq d a).bind λh=>bE (α:=jh) (bB (bz (a<ar e)) ((aq e a).bind λm=>Y (aR (aR (aR h-f)-aR m),b,())) (Y (aR (aR h-f),b,()))) λ(c,g,_)=>(cI (g.length+([eD c]).length)).bind λ_=>(eT bG c 63).bind λl=>Y (l,(g++[eD c]),())) λ(i,j,_)=>Y (.inl (i,aO a,j,()))) (Y (.inr (b,())))) (0,0,[],())).bind λ(k,_)=>Y (k,())
def qD:lA->bA g2:=λ(a,c,_)=>(m2 (a.2.1,())).bind λ(b,_)=>(m2 (c.2.1,())).bind λ(aU,_)=>(bB (a.1==c.1) ((EP (b,aU,())).bind λ(f,_)=>(mB (a.1,f,())).bind λ(g,_)=>Y (g,())) ((AX (b,aU,())).bind λ(h,_)=>bB (bz (h>=0)) ((AY (b,aU,())).bind λ(i,_)=>(mB (a.1,i,())).bind λ(j,_)=>Y (j,())) ((AY (aU,b,())).bind λ(d,_)=>(mB (c.1,d,())).bind λ(e,_)=>Y (e,()))))
def yh:lA->bA g2:=λ(a,b,_)=>(AW (b,())).bind λ(c,_)=>(qD (a,c,())).bind λ(aU,_)=>Y (aU,())
def nE:qr->bA g2:=λ(f,b,_)=>(qE (f,())).bind λ(a,_)=>(bB (bz (b>=0)) ((yi (a.2.1,b,())).bind λ(aU,_)=>(mB (a.1,aU,())).bind λ(j,_)=>Y (j,())) ((yj (a.2.1,az (0-b),())).bind λ(k,l,_)=>(mB (a.1,k,())).bind λ(d,_)=>bE (α:=lA) (bE (α:=(bD×eU×eU×bw)) (bB (a.1==bt) (Y (l,(br,([],())),d,())) (Y (br,(br,([],())),d,()))) λ(m,e,c,_)=>bB m ((tr (1,())).bind λ(h,_)=>(yh (c,h,())).bind λ(i,_)=>Y (e,i,())) (Y (e,c,()))) λ(_,g,_)=>Y (g,())))
def yl:qr->bA g2:=λ(d,f,_)=>(loop (σ:=(Z×eU×eU×bw)) (ρ:=(Z×eU×eU×bw)) (λ(a,b,c,_)=>bB (bz (a>1048576)) ((nE (b,(-1048576:Z),())).bind λ(i,_)=>Y (.inl (az (a-1048576),i,c,()))) (Y (.inr (a,b,c,())))) (f,d,(br,([],())),())).bind λ(g,e,_,_)=>(nE (e,az (0-g),())).bind λ(h,_)=>Y (h,())
def vG:g2->bA cS:=λ(b,_)=>(m2 (b.2.1,())).bind λ(a,_)=>(bB (ar a==0) (Y (0,())) ((aq a (az (ar a-1))).bind λc=>(ya (c,())).bind λ(aU,_)=>Y (az (az (32*az (ar a-1))+aU),())))
def oV:qr->bA gL:=λ(e,a,_)=>(qE (e,())).bind λ(c,_)=>(bif ar c.2.1==0 then Y ((br,((br,([],())),((0:Z),()))),()) else bif bz (a>65536) then(tu ()).bind λ(aU,_)=>Y (aU,()) else((rP (c,())).bind λ(b,_)=>(rO (c,())).bind λ(k,_)=>(yl (k,b,())).bind λ(d,_)=>bE (α:=(e0×eU×bw)⊕gL) (bE (α:=(bD×e0×eU×bw)) (bB (bz (az (a+b)<(-65536:Z))==br) ((vG (d,())).bind λ(l,_)=>Y (bz (az (az (a+b)+l)>65536),(br,((br,([],())),((0:Z),()))),d,())) (Y (bt,(br,((br,([],())),((0:Z),()))),d,()))) λ(n,m,f,_)=>bB n ((tu ()).bind λ(j,_)=>Y (.inr (j,()))) (Y (.inl (m,f,())))) λh=>match h with
 |.inl (_,g,_)=>(Y ((br,((e.1,g.2),(az (a+b),()))),()))
 |.inr i=>Y i))
def tv:cS->bA gL:=λ(a,_)=>(tr (a,())).bind λ(b,_)=>(oV (b,0,())).bind λ(c,_)=>Y (c,())
def lE:gL->bA gL:=λ(a,_)=>(bB a.1 ((tu ()).bind λ(b,_)=>Y (b,())) ((oV (a.2.1,a.2.2.1,())).bind λ(c,_)=>Y (c,())))
def mA:g2->bA cS:=λ(b,_)=>(qE (b,())).bind λ(a,_)=>(bB (ar a.2.1==0) (Y (0,())) (bB a.1 (Y ((-1:Z),())) (Y (1,()))))
def rQ:es->bA cS:=λ(b,a,_)=>(bB b (Y (gM bG a 9223372036854775808,())) (Y (a,())))
def A2:es->bA cS:=λ(a,b,_)=>bE (α:=bw⊕cS) (bE (α:=gP) (bB ((b==3)==br) (bB ((b==1)==bt) (bB ((!a)==br) (bB ((b==2)==bt) (Y (a,())) (Y (br,()))) (Y (bt,()))) (bB ((b==2)==bt) (Y (a,())) (Y (br,())))) (Y (bt,()))) λ(f,_)=>bB f ((rQ (a,9218868437227405311,())).bind λ(aU,_)=>Y (.inr (aU,()))) (Y (.inl ()))) λc=>match c with
 |.inl _=>((rQ (a,9218868437227405312,())).bind λ(e,_)=>Y (e,()))
 |.inr d=>Y d
def AV:qr->bA gP:=λ(a,b,_)=>(m2 (a.2.1,())).bind λ(c,_)=>(yj (c,b,())).bind λ(_,d,_)=>Y (d,())
def EW:(bD×Z×bD×Z×bw)->bA gP:=λ(c,b,d,a,_)=>(bB (a==1) (Y (c,())) (bB (a==2) (Y ((!c),())) (bB (a==3) (Y (br,())) (bB (bz (b>0)==br) (bB ((b==0)==bt) (Y (d,())) (Y (br,()))) (Y (bt,()))))))
def ET:(bD×eU×Z×bD×Z×bw)->bA g2:=λ(q,b,a,h,p,_)=>(yl (b,a,())).bind λ(l,_)=>(AV (b,a,())).bind λ(D,_)=>bE (α:=lA⊕g2) (bE (α:=(bD×eU×eU×bw)) (bB ((!D)==bt) (Y ((!h),(br,([],())),l,())) (Y (br,(br,([],())),l,()))) λ(F,G,i,_)=>bB F (Y (.inr (i,()))) (Y (.inl (G,i,())))) λs=>match s with
 |.inl (g,f,_)=>(bE (α:=(Z×eU×eU×bw)) (bB (bz (a>0)) ((yl (b,az (a-1),())).bind λ(k,_)=>bE (α:=(bD×eU×eU×bw)) ((rP (k,())).bind λ(v,_)=>bB ((v==0)==bt) ((mA (k,())).bind λ(w,_)=>Y ((w !=0),g,f,())) (Y (br,g,f,()))) λ(E,e,c,_)=>bB E (bB (h==br) ((AV (b,az (a-1),())).bind λ(x,_)=>bB x (Y (1,e,c,())) (Y (0,e,c,()))) (Y (1,e,c,()))) (Y ((-1:Z),e,c,()))) (Y ((-1:Z),g,f,()))) λ(o,m,d,_)=>bE (α:=(bD×eU×eU×bw)) ((mA (d,())).bind λ(y,_)=>bB ((y !=0)==bt) ((rP (d,())).bind λ(z,_)=>Y ((z==0),m,d,())) (Y (br,m,d,()))) λ(r,n,j,_)=>bE (α:=lA) ((EW (q,o,r,p,())).bind λ(A,_)=>
  bB A ((tr (1,())).bind λ(B,_)=>(qD (j,B,())).bind λ(C,_)=>Y (n,C,())) (Y (n,j,()))) λ(_,t,_)=>Y (t,()))
 |.inr u=>Y u
def EN:g2->bA ep:=λ(f,_)=>(qE (f,())).bind λ(d,_)=>(bB (bz (ar d.2.1>2)) (Y (0,br,())) ((loop (σ:=(Z×Z×eU×bw)) (ρ:=(Z×eU×bw)) (λ(e,b,a,_)=>bB (bz (b<ar a.2.1)) ((aq a.2.1 b).bind λh=>(iz bG (aR h) (az (32*b))).bind λi=>Y (.inl (gM bG e i,aO b,a,()))) (Y (.inr (e,a,())))) (0,0,d,())).bind λ(c,g,_)=>bB g.1 (bB (bz (c>9223372036854775808)) (Y (0,br,())) (Y (az (az (0-az (aR (c-1)))-1),bt,()))) (bB (bz (c>9223372036854775807)) (Y (0,br,())) (Y (az c,bt,())))))
def A3:(bD×eU×Z×bD×Z×bw)->bA cS:=λ(c,e,a,i,f,_)=>(vG (e,())).bind λ(b,_)=>(bif bz (az (az (a+b)-1)>=1024) then(A2 (c,f,())).bind λ(p,_)=>Y (p,()) else(bE (α:=g2) (bB (bz ((if(-1074:Z)>az (az (az (a+b)-1)-52) then(-1074:Z) else az (az (az (a+b)-1)-52))>=a)) ((ET (c,e,az ((if(-1074:Z)>az (az (az (a+b)-1)-52) then(-1074:Z) else az (az (az (a+b)-1)-52))-a),i,f,())).bind λ(q,_)=>Y (q,())) ((nE (e,az (a-(if(-1074:Z)>az (az (az (a+b)-1)-52) then(-1074:Z) else az (az (az (a+b)-1)-52))),())).bind λ(r,_)=>Y (r,()))) λ(j,_)=>(EN (j,())).bind λ(g,_,_)=>bE (α:=nA) (bif g==9007199254740992 then Y (aO (if(-1074:Z)>az (az (az (a+b)-1)-52) then(-1074:Z) else az (az (az (a+b)-1)-52)),4503599627370496,()) else
 Y ((if(-1074:Z)>az (az (az (a+b)-1)-52) then(-1074:Z) else az (az (az (a+b)-1)-52)),g,())) λ(h,d,_)=>bE (α:=bw⊕cS) (bE (α:=gP) (bB (bz (d>=4503599627370496)==bt) (Y (bz (az (h+53)>1024),())) (Y (br,()))) λ(s,_)=>bB s ((A2 (c,f,())).bind λ(m,_)=>Y (.inr (m,()))) (bB (bz (d>=4503599627370496)) ((iz bG (aR (az (h+1075))) 52).bind λt=>(rQ (c,gM bG t (aR (az (d-4503599627370496))),())).bind λ(n,_)=>Y (.inr (n,()))) (Y (.inl ())))) λk=>match k with
 |.inl _=>((rQ (c,aR d,())).bind λ(o,_)=>Y (o,()))
 |.inr l=>Y l))
def ym:(e0×Z×bw)->bA cS:=λ(b,c,_)=>(lE (b,())).bind λ(a,_)=>(bB a.1 (Y (9221120237041090560,())) ((mA (a.2.1,())).bind λ(aU,_)=>bB (aU==0) (Y (0,())) ((rO (a.2.1,())).bind λ(d,_)=>(A3 (a.2.1.1,d,a.2.2.1,br,c,())).bind λ(e,_)=>Y (e,()))))
def EX:nA->bA cS:=λ(b,a,_)=>(tv (b,())).bind λ(c,_)=>(ym (c,a,())).bind λ(aU,_)=>Y (aU,())
def x1:cS->bA nA:=λ(a,_)=>(eT bG a 52).bind λb=>Y (az (e3 bG b 2047),e3 bG a 4503599627370495,())
def pG:cS->bA gP:=λ(a,_)=>(x1 (a,())).bind λ(b,_,_)=>Y ((b !=2047),())
def i5:hD->bA hD:=λ(b,_)=>(loop (σ:=cS) (ρ:=cS) (λ(a,_)=>bE (α:=bw⊕(cS⊕cS)) (bB (bz (a>0)==bt) ((aq b (az (a-1))).bind λi=>bB (i==0) (Y (.inl ())) (Y (.inr (.inr (a,()))))) (Y (.inr (.inr (a,()))))) λg=>match g with
 |.inl _=>(Y (.inl (az (a-1),())))
 |.inr h=>Y h) (ar b,())).bind λ(f,_)=>((Y (0)).bind λc=>(gF f).bind λd=>(he c d b.length).map λ_=>(c,d)).bind λe=>Y (((b.take e.2).drop e.1),())
def my:(bD×bj×bw)->bA g2:=λ(c,b,_)=>(i5 (b,())).bind λ(a,_)=>(bB (ar a==0) (Y ((br,(([]:bj),())),())) (Y ((c,(a,())),())))
def vx:cS->bA g2:=λ(a,_)=>bE (α:=(Z×eU×bw)) (bB (bz (a<0)) (Y (aR (0-aR a),(br,([],())),())) (Y (aR a,(br,([],())),()))) λ(b,_,_)=>(eT bG b 32).bind λd=>(my (bz (a<0),[eD (e3 bG b 4294967295),eD d],())).bind λ(c,_)=>Y (c,())
def DP:cS->bA gP:=λ(a,_)=>Y ((e3 bG a 9223372036854775808 !=0),())
def vD:hD->bA hD:=λ(a,_)=>sh a.length (Y ([],())) ((cI (([]:bj).length+a.length)).bind λ_=>Y (([]++a),()))
def tj:g2->bA g2:=λ(a,_)=>(vD (a.2.1,())).bind λ(b,_)=>(my ((!a.1),b,())).bind λ(c,_)=>Y (c,())
def xY:bw->bA gL:=λ_=>Y ((bt,((br,([],())),((0:Z),()))),())
def D0:g2->bA g2:=λ(a,_)=>(vD (a.2.1,())).bind λ(b,_)=>(my (a.1,b,())).bind λ(c,_)=>Y (c,())
def qA:g2->bA cS:=λ(a,_)=>(i5 (a.2.1,())).bind λ(b,_)=>(bB (ar b==0) (Y (0,())) (bB a.1 (Y ((-1:Z),())) (Y (1,()))))
def AC:g2->bA cS:=λ(b,_)=>(loop (σ:=cS) (ρ:=nX) (λ(a,_)=>bB (bz (a<ar b.2.1)) ((aq b.2.1 a).bind λc=>bB (c !=0) ((yb (c,())).bind λ(aU,_)=>Y (.inr (.inr (az (az (a*32)+aU),())))) (Y (.inl (aO a,())))) (Y (.inr (.inl ())))) (0,())).bind λd=>match d with
 |.inl _=>(Y (0,()))
 |.inr e=>Y e
def AF:hD->bA cS:=λ(a,_)=>(bB (ar a==0) (Y (0,())) ((aq a (az (ar a-1))).bind λc=>(ya (c,())).bind λ(b,_)=>Y (az (az (az (ar a-1)*32)+b),())))
def th:g2->bA cS:=λ(a,_)=>(i5 (a.2.1,())).bind λ(b,_)=>(AF (b,())).bind λ(c,_)=>Y (c,())
def x6:nY->bA hD:=λ(b,e,_)=>(bB (ar b==0) (Y ([],())) ((kT bO e 32).bind λc=>(jq e 32).bind λj=>(fS (aO (az (c+ar b))) (aO (az (c+ar b)))).bind λg=>(loop (σ:=jh) (ρ:=hD) (λ(a,d,_)=>bB (bz (a<ar b)) ((aq b a).bind λk=>(iz bG (aR k) (aR j)).bind λf=>rd d (az (c+a)) λl=>wr d (az (c+a)) (gM ch l (eD (e3 bG f 4294967295))) λn=>(eT bG f 32).bind λm=>wr n (aO (az (c+a))) (eD m) λo=>Y (.inl (aO a,o,()))) (Y (.inr (d,())))) (0,bJ g (0:Z),())).bind λ(h,_)=>(i5 (h,())).bind λ(i,_)=>Y (i,())))
def ID:cS->bA gP:=λ(a,_)=>Y ((a !=0),())
def IR:(bj×bw×bw)->bA cS:=λ(b,_,_)=>(loop (σ:=cS) (ρ:=nX) (λ(a,_)=>bB (bz (a<ar b)) ((aq b a).bind λf=>(ID (f,())).bind λ(e,_)=>bB e (Y (.inr (.inr (a,())))) (Y (.inl (aO a,())))) (Y (.inr (.inl ())))) (0,())).bind λc=>match c with
 |.inl _=>(Y ((-1:Z),()))
 |.inr d=>Y d
def AN:(bj×bw×bw)->bA gP:=λ(b,_,_)=>(IR (b,(),())).bind λ(a,_)=>Y (bz (a>=0),())
def AE:nY->bA (bj×bD×bw):=λ(a,h,_)=>(kT bO h 32).bind λb=>(jq h 32).bind λj=>(bif bz (b>=ar a) then Y ([],bz (ar a>0),()) else bE (α:=gP) (((Y (0)).bind λe=>(gF b).bind λf=>(he e f a.length).map λ_=>(e,f)).bind λi=>(AN (((a.take i.2).drop i.1),(),())).bind λ(p,_)=>bB (p==br) ((aq a b).bind λs=>(iz ch 1 (aR j)).bind λt=>Y ((e3 ch s (eD (t-1))!=0),())) (Y (bt,()))) λ(l,_)=>(fS (az (ar a-b)) (az (ar a-b))).bind λg=>(loop (σ:=jh) (ρ:=hD) (λ(c,d,_)=>bif bz (c<ar (bJ g (0:Z))) then bE (α:=hD) ((aq a (az (b+c))).bind λk=>bE (α:=jh) (bB (bz (aO (az (b+c))<ar a)) ((aq a (aO (az (b+c)))).bind λu=>(iz bG (aR u) 32).bind λv=>Y (gM bG (aR k) v,d,())) (Y (aR k,d,()))) λ(r,m,_)=>
 (eT bG r (aR j)).bind λw=>wr m c (eD (e3 bG w 4294967295)) λx=>Y (x,())) λ(n,_)=>Y (.inl (aO c,n,())) else Y (.inr (d,()))) (0,bJ g (0:Z),())).bind λ(o,_)=>(i5 (o,())).bind λ(q,_)=>Y (q,l,()))
def x5:j9->bA hD:=λ(b,d,_)=>bE (α:=j9) (bB (bz (ar b<ar d)) (Y (d,b,())) (Y (b,d,()))) λ(c,h,_)=>(fS 0 (aO (ar c))).bind λn=>(loop (σ:=qq) (ρ:=jh) (λ(e,a,f,_)=>bB (bz (a<ar c)) (bE (α:=jh) ((aq c a).bind λl=>bE (α:=jh) (bB (bz (a<ar h)) ((aq h a).bind λq=>Y (aR (aR (aR l+e)+aR q),f,())) (Y (aR (aR l+e),f,()))) λ(g,j,_)=>(cI (j.length+([eD (e3 bG g 4294967295)]).length)).bind λ_=>(eT bG g 32).bind λr=>Y (r,(j++[eD (e3 bG g 4294967295)]),())) λ(m,o,_)=>Y (.inl (m,aO a,o,()))) (Y (.inr (e,f,())))) (0,0,bJ n (0:Z),())).bind λ(i,k,_)=>(cI (k.length+([eD i]).length)).bind λ_=>(i5 ((k++[eD i]),())).bind λ(p,_)=>Y (p,())
def rL:qr->bA qr:=λ(b,a,_)=>bE (α:=g2⊕qr) (bE (α:=(bD×eU×bw)) (bB (bz (a<(-1048576:Z))==br) (Y (bz (a>1048576),(br,([],())),())) (Y (bt,(br,([],())),()))) λ(p,q,_)=>bB p (Y (.inr ((br,(([]:bj),())),3,()))) (Y (.inl (q,())))) λh=>match h with
 |.inl (f,_)=>((i5 (b.2.1,())).bind λ(c,_)=>bB (bz (a>=0)) ((x6 (c,a,())).bind λ(m,_)=>(my (b.1,m,())).bind λ(n,_)=>Y (n,0,())) ((AE (c,az (0-a),())).bind λ(d,j,_)=>bE (α:=(bj×eU×bw)) (bE (α:=(bD×eU×bw)) (bB (b.1==bt) (Y (j,f,())) (Y (br,f,()))) λ(o,e,_)=>bB o ((x5 (d,[1],())).bind λ(k,_)=>Y (k,e,())) (Y (d,e,()))) λ(g,_,_)=>(my (b.1,g,())).bind λ(l,_)=>Y (l,0,())))
 |.inr i=>Y i
def At:qr->bA g2:=λ(d,f,_)=>(loop (σ:=(Z×eU×eU×bw)) (ρ:=(Z×eU×eU×bw)) (λ(a,b,c,_)=>bB (bz (a>1048576)) ((rL (b,(-1048576:Z),())).bind λ(i,_,_)=>Y (.inl (az (a-1048576),i,c,()))) (Y (.inr (a,b,c,())))) (f,d,(br,([],())),())).bind λ(g,e,_,_)=>(rL (e,az (0-g),())).bind λ(h,_,_)=>Y (h,())
def oU:gL->bA (e0×bD×bw):=λ(a,_)=>(bif a.1 then(xY ()).bind λ(j,_)=>Y (j,br,()) else(D0 (a.2.1,())).bind λ(b,_)=>(qA (b,())).bind λ(aU,_)=>bif aU==0 then Y ((br,((br,([],())),((0:Z),()))),bt,()) else((AC (b,())).bind λ(c,_)=>bE (α:=(e0×eU×bw)⊕(e0×bD×bw)) (bE (α:=(bD×e0×eU×bw)) ((th (b,())).bind λ(k,_)=>bB (bz (a.2.2.1>az (65536-k))==br) (Y (bz (a.2.2.1<az ((-65536:Z)-c)),(br,((br,([],())),((0:Z),()))),b,())) (Y (bt,(br,((br,([],())),((0:Z),()))),b,()))) λ(l,m,e,_)=>bB l ((xY ()).bind λ(h,_)=>Y (.inr (h,br,()))) (Y (.inl (m,e,())))) λf=>match f with
 |.inl (_,d,_)=>((At (d,c,())).bind λ(i,_)=>Y ((br,(i,(az (a.2.2.1+c),()))),bt,()))
 |.inr g=>Y g))
def tc:qr->bA gL:=λ(b,a,_)=>(oU ((br,(b,(a,()))),())).bind λ(c,_,_)=>Y (c,())
def ld:cS->bA gL:=λ(b,_)=>(x1 (b,())).bind λ(a,c,_)=>bE (α:=(Z×Z×e0×bw)⊕gL) (bB (a==2047) (Y (.inr ((bt,((br,([],())),((0:Z),()))),()))) (bB (a==0) (Y (.inl ((-1074:Z),c,(br,((br,([],())),((0:Z),()))),()))) (Y (.inl (az (a-1075),gM bG c 4503599627370496,(br,((br,([],())),((0:Z),()))),()))))) λi=>match i with
 |.inl (f,g,e,_)=>((vx (az g,())).bind λ(d,_)=>bE (α:=(e0×eU×bw)) ((DP (b,())).bind λ(l,_)=>bB l ((tj (d,())).bind λ(m,_)=>Y (e,m,())) (Y (e,d,()))) λ(_,h,_)=>(tc (h,f,())).bind λ(k,_)=>Y (k,()))
 |.inr j=>Y j
def xZ:j7->bA (e0×e0×bD×bw):=λ(c,d,_)=>(oU (c,())).bind λ(a,aU,_)=>(oU (d,())).bind λ(b,e,_)=>(bB (aU==bt) (Y (a,b,e,())) (Y (a,b,br,())))
def D4:j9->bA hD:=λ(c,a,_)=>bE (α:=bw⊕hD) (bB ((ar c==0)==br) (bB (ar a==0) (Y (.inr ([],()))) (Y (.inl ()))) (Y (.inr ([],())))) λo=>match o with
 |.inl _=>((fS (az (ar c+ar a)) (az (ar c+ar a))).bind λl=>(loop (σ:=jh) (ρ:=hD) (λ(b,g,_)=>bB (bz (b<ar c)) ((aq c b).bind λh=>(loop (σ:=qq) (ρ:=jh) (λ(e,d,f,_)=>bB (bz (d<ar a)) ((aq a d).bind λi=>rd f (az (b+d)) λj=>wr f (az (b+d)) (eD (e3 bG (aR (aR (aR (aR h*aR i)+aR j)+e)) 4294967295)) λs=>(eT bG (aR (aR (aR (aR h*aR i)+aR j)+e)) 32).bind λr=>Y (.inl (r,aO d,s,()))) (Y (.inr (e,f,())))) (0,0,g,())).bind λ(k,m,_)=>wr m (az (b+ar a)) (eD k) λt=>Y (.inl (aO b,t,()))) (Y (.inr (g,())))) (0,bJ l (0:Z),())).bind λ(n,_)=>(i5 (n,())).bind λ(q,_)=>Y (q,()))
 |.inr p=>Y p
def DZ:lA->bA g2:=λ(a,b,_)=>(i5 (a.2.1,())).bind λ(c,_)=>(i5 (b.2.1,())).bind λ(aU,_)=>(D4 (c,aU,())).bind λ(d,_)=>(my ((!(a.1==b.1)),d,())).bind λ(e,_)=>Y (e,())
def m0:j7->bA gL:=λ(b,c,_)=>(xZ (b,c,())).bind λ(a,aU,d,_)=>(bB (!d) ((xY ()).bind λ(e,_)=>Y (e,())) ((DZ (a.2.1,aU.2.1,())).bind λ(f,_)=>(tc (f,az (a.2.2.1+aU.2.2.1),())).bind λ(g,_)=>Y (g,())))
def DH:gL->bA gL:=λ(b,_)=>(oU (b,())).bind λ(a,d,_)=>bE (α:=j7) (bB d ((tj (a.2.1,())).bind λ(aU,_)=>Y ((a.1,(aU,a.2.2)),(br,((br,([],())),((0:Z),()))),())) (Y (a,(br,((br,([],())),((0:Z),()))),()))) λ(c,_,_)=>Y (c,())
def oT:qr->bA g2:=λ(a,b,_)=>(rL (a,b,())).bind λ(c,_,_)=>Y (c,())
def DF:cS->bA gP:=λ(a,_)=>Y ((a !=a),())
def DD:nA->bA cS:=λ(a,b,_)=>(DF (a,())).bind λ(c,_)=>(DF (b,())).bind λ(aU,_)=>(bB c (bB aU (Y (0,())) (Y ((-1:Z),()))) (bB aU (Y (1,())) (bB (bz (a<b)) (Y ((-1:Z),())) (bB (bz (a>b)) (Y (1,())) (Y (0,()))))))
def x3:j9->bA cS:=λ(b,c,_)=>(bif ar b !=ar c then(vr (ar b,ar c,())).bind λ(f,_)=>Y (f,()) else((loop (σ:=cS) (ρ:=nX) (λ(a,_)=>bB (bz (a>=0)) ((aq b a).bind λh=>(aq c a).bind λi=>bB (h !=i) ((aq b a).bind λj=>(aq c a).bind λk=>(DD (j,k,())).bind λ(g,_)=>Y (.inr (.inr (g,())))) (Y (.inl (az (a-1),())))) (Y (.inr (.inl ())))) (az (ar b-1),())).bind λd=>match d with
 |.inl _=>(Y (0,()))
 |.inr e=>Y e))
def x4:j9->bA hD:=λ(b,d,_)=>(fS (ar b) (ar b)).bind λi=>(loop (σ:=qq) (ρ:=hD) (λ(e,a,c,_)=>bB (bz (a<ar b)) (bE (α:=jh) ((aq b a).bind λg=>bE (α:=jh) (bB (bz (a<ar d)) ((aq d a).bind λn=>Y (aR (aR (aR g-e)-aR n),c,())) (Y (aR (aR g-e),c,()))) λ(f,j,_)=>wr j a (eD (e3 bG f 4294967295)) λp=>(eT bG f 32).bind λo=>Y (e3 bG o 1,p,())) λ(h,k,_)=>Y (.inl (h,aO a,k,()))) (Y (.inr (c,())))) (0,0,bJ i (0:Z),())).bind λ(l,_)=>(i5 (l,())).bind λ(m,_)=>Y (m,())
def tg:lA->bA g2:=λ(a,c,_)=>(i5 (a.2.1,())).bind λ(b,_)=>(i5 (c.2.1,())).bind λ(aU,_)=>(bB (a.1==c.1) ((x5 (b,aU,())).bind λ(f,_)=>(my (a.1,f,())).bind λ(g,_)=>Y (g,())) ((x3 (b,aU,())).bind λ(h,_)=>bB (bz (h>=0)) ((x4 (b,aU,())).bind λ(i,_)=>(my (a.1,i,())).bind λ(j,_)=>Y (j,())) ((x4 (aU,b,())).bind λ(d,_)=>(my (c.1,d,())).bind λ(e,_)=>Y (e,()))))
def DL:(nz×bw)->bA gL:=λ(i,_)=>(loop (σ:=(Z×Z×e0×nz×bw)) (ρ:=((Z×e0×nz×bw)⊕gL)) (λ(c,e,k,b,_)=>bB (bz (e<ar i)) ((aq i e).bind λw=>(oU (w,())).bind λ(a,s,_)=>bB (!s) ((xY ()).bind λ(t,_)=>Y (.inr (.inr (t,())))) ((cI (b.length+([a]).length)).bind λ_=>Y (.inl ((if a.2.2.1<c then a.2.2.1 else c),aO e,k,(b++[a]),())))) (Y (.inr (.inl (c,k,b,()))))) (0,0,(br,((br,([],())),((0:Z),()))),[],())).bind λn=>match n with
 |.inl (h,u,f,_)=>((loop (σ:=(Z×e0×nz×eU×bw)) (ρ:=(e0×eU×bw)) (λ(d,j,g,l,_)=>bB (bz (d<ar f)) (rd g d λm=>(oT (m.2.1,az (m.2.2.1-h),())).bind λ(p,_)=>(tg (l,p,())).bind λ(q,_)=>Y (.inl (aO d,j,g,q,()))) (Y (.inr (j,l,())))) (0,u,f,(br,([],())),())).bind λ(_,v,_)=>(tc (v,h,())).bind λ(r,_)=>Y (r,()))
 |.inr o=>Y o
def pF:gL->bA cS:=λ(a,_)=>(oU (a,())).bind λ(b,_,_)=>(qA (b.2.1,())).bind λ(aU,_)=>Y (aU,())
def vu:gL->bA gL:=λ(a,_)=>(oU (a,())).bind λ(b,_,_)=>Y (b,())
def D3:nY->bA nY:=λ(a,c,_)=>(fS (ar a) (ar a)).bind λh=>(loop (σ:=qq) (ρ:=jh) (λ(e,b,d,_)=>bB (bz (b>=0)) ((iz bG e 32).bind λf=>(aq a b).bind λg=>(kT bG (gM bG f (aR g)) (aR c)).bind λl=>wr d b (eD l) λn=>(jq (gM bG f (aR g)) (aR c)).bind λm=>Y (.inl (m,az (b-1),n,()))) (Y (.inr (e,d,())))) (0,az (ar a-1),bJ h (0:Z),())).bind λ(k,i,_)=>(i5 (i,())).bind λ(j,_)=>Y (j,eD k,())
def vB:cS->bA cS:=λ(b,_)=>(ya (b,())).bind λ(a,_)=>Y (az (32-a),())
def AD:((bj×X×X)×bj×bw)->bA nY:=λ(b,a,_)=>(bm (b.2.2-b.2.1) (ar a)).bind λV=>(ba b.1 (b.2.1+V) λP=>Y P).bind λdg=>(iz bG (aR dg) 32).bind λI=>(bm (b.2.2-b.2.1) (az (ar a-1))).bind λav=>(ba b.1 (b.2.1+av) λT=>Y T).bind λK=>(aq a (az (ar a-1))).bind λbs=>(kT bG (gM bG I (aR K)) (aR bs)).bind λbx=>(aq a (az (ar a-1))).bind λce=>(jq (gM bG I (aR K)) (aR ce)).bind λci=>(loop (σ:=(ew×Z×Z×bj×bw)) (ρ:=(ew×Z×bj×bw)) (λ(g,h,r,m,_)=>bE (α:=(ew×bj×bw)⊕((ew×Z×Z×bj×bw)⊕(ew×Z×bj×bw))) (bif bz (h>4294967295)==br then(aq a (az (ar a-2))).bind λco=>(iz bG r 32).bind λcs=>(bm (g.2-g.1) (az (ar a-2))).bind λU=>(ba m (g.1+U) λN=>Y N).bind λcv=>bif bz (aR (h*aR co)>gM bG cs (aR cv)) then
 Y (.inl (g,m,())) else Y (.inr (.inr (g,h,m,()))) else Y (.inl (g,m,()))) λa0=>match a0 with
 |.inl (C,D,_)=>((aq a (az (ar a-1))).bind λE=>bB (bz (aR (r+aR E)>4294967295)) (Y (.inr (C,aR (h-1),D,()))) (Y (.inl (C,aR (h-1),aR (r+aR E),D,()))))
 |.inr a3=>Y a3) (b.2,bx,ci,b.1,())).bind λ(a4,i,bl,_)=>(loop (σ:=(ew×Z×Z×Z×bj×bw)) (ρ:=(ew×Z×Z×bj×bw)) (λ(e,l,p,j,n,_)=>bB (bz (j<ar a)) ((aq a j).bind λu=>(eT bG (aR (aR (i*aR u)+l)) 32).bind λc1=>(bm (e.2-e.1) j).bind λad=>(ba n (e.1+ad) λO=>Y O).bind λF=>(bm (e.2-e.1) j).bind λy=>(ba n (e.1+y) λ_=>Y (n.set (e.1+y) (eD (e3 bG (aR (aR (aR F-e3 bG (aR (aR (i*aR u)+l)) 4294967295)-p)) 4294967295)))).bind λd1=>(eT bG (aR (aR (aR F-e3 bG (aR (aR (i*aR u)+l)) 4294967295)-p)) 32).bind λc2=>Y (.inl (e,c1,e3 bG c2 1,aO j,d1,()))) (Y (.inr (e,l,p,n,())))) (a4,0,0,0,bl,())).bind λ(c,x,w,s,_)=>(bm (c.2-c.1) (ar a)).bind λam=>(ba s (c.1+am) λQ=>Y Q).bind λG=>
 (bm (c.2-c.1) (ar a)).bind λz=>(ba s (c.1+z) λ_=>Y (s.set (c.1+z) (eD (e3 bG (aR (aR (aR G-x)-w)) 4294967295)))).bind λv=>(eT bG (aR (aR (aR G-x)-w)) 32).bind λdl=>(bif e3 bG dl 1==0 then bB (bL c.1 b.2.1&&(bL c.2 b.2.2&&(bL v.length ((b.1).length)&&cg c.1 c.2))) (Y (v,eD i,())) bv else(loop (σ:=(ew×Z×Z×bj×bw)) (ρ:=(ew×Z×bj×bw)) (λ(f,q,k,o,_)=>bB (bz (k<ar a)) ((aq a k).bind λH=>(bm (f.2-f.1) k).bind λan=>(ba o (f.1+an) λR=>Y R).bind λJ=>(bm (f.2-f.1) k).bind λA=>(ba o (f.1+A) λ_=>Y (o.set (f.1+A) (eD (e3 bG (aR (aR (aR J+aR H)+q)) 4294967295)))).bind λd2=>(eT bG (aR (aR (aR J+aR H)+q)) 32).bind λds=>Y (.inl (f,ds,aO k,d2,()))) (Y (.inr (f,q,o,())))) (c,0,0,v,())).bind λ(d,M,t,_)=>
 (bm (d.2-d.1) (ar a)).bind λap=>(ba t (d.1+ap) λS=>Y S).bind λd0=>(bm (d.2-d.1) (ar a)).bind λB=>(ba t (d.1+B) λ_=>Y (t.set (d.1+B) (eD (d0+eD M)))).bind λL=>bB (bL d.1 b.2.1&&(bL d.2 b.2.2&&(bL L.length ((b.1).length)&&cg d.1 d.2))) (Y (L,eD (aR (i-1)),())) bv)
def D2:j9->bA j9:=λ(a,b,_)=>(x3 (a,b,())).bind λ(t,_)=>(bif bz (t<0) then(vD (a,())).bind λ(u,_)=>Y ([],u,()) else bif ar b==1 then(aq b 0).bind λC=>(D3 (a,C,())).bind λ(v,w,_)=>(i5 ([w],())).bind λ(x,_)=>Y (v,x,()) else(aq b (az (ar b-1))).bind λD=>(vB (D,())).bind λ(h,_)=>(x6 (b,h,())).bind λ(e,_)=>(fS (aO (ar a)) (aO (ar a))).bind λc=>(x6 (a,h,())).bind λ(i,_)=>(fS (az (ar (jS (bJ c (0:Z)) i 0 (bJ c (0:Z)).length)-ar e)) (az (ar (jS (bJ c (0:Z)) i 0 (bJ c (0:Z)).length)-ar e))).bind λn=>(loop (σ:=(Z×bj×bj×bw)) (ρ:=j9) (λ(d,p,g,_)=>bif bz (d>=0) then((gF d).bind λj=>(gF (aO (az (d+ar e)))).bind λk=>(he j k g.length).bind λ_=>(oi g.length).map λ_=>(j,k)).bind λf=>
 bB (cg f.1 f.2) ((AD ((g,f.1,f.2),e,())).bind λ(r,y,_)=>wr p d y λE=>Y (.inl (az (d-1),E,r,()))) bv else Y (.inr (p,g,()))) (az (ar (bJ n (0:Z))-1),bJ n (0:Z),jS (bJ c (0:Z)) i 0 (bJ c (0:Z)).length,())).bind λ(s,q,_)=>((Y (0)).bind λl=>(gF (ar e)).bind λm=>(he l m q.length).map λ_=>(l,m)).bind λo=>(i5 (((q.take o.2).drop o.1),())).bind λ(z,_)=>(AE (z,h,())).bind λ(A,_,_)=>(i5 (s,())).bind λ(B,_)=>Y (B,A,()))
def AB:lA->bA cS:=λ(b,c,_)=>(qA (b,())).bind λ(a,_)=>(qA (c,())).bind λ(aU,_)=>(bB (bz (a<aU)) (Y ((-1:Z),())) (bB (bz (a>aU)) (Y (1,())) ((i5 (b.2.1,())).bind λ(d,_)=>(i5 (c.2.1,())).bind λ(e,_)=>(x3 (d,e,())).bind λ(f,_)=>Y (az (a*f),()))))
def DJ:(xD×bw)->bA cS:=λ(a,_)=>(th (a.2.1,())).bind λ(b,_)=>Y (az (az (a.2.2.1+b)-1),())
def D1:lA->bA g2:=λ(b,a,_)=>(tg (b,((!a.1),a.2),())).bind λ(c,_)=>Y (c,())
def Ar:(xD×Z×bw)->bA (eU×Z×bD×bw):=λ(a,b,_)=>(th (a.2.1,())).bind λ(h,_)=>(bB (bz (b>h)) (Y ((br,(([]:bj),())),(-1:Z),br,())) ((At (a.2.1,b,())).bind λ(aU,_)=>(oT (aU,b,())).bind λ(i,_)=>(D1 (a.2.1,i,())).bind λ(c,_)=>(vx (1,())).bind λ(j,_)=>(oT (j,az (b-1),())).bind λ(k,_)=>(AB (c,k,())).bind λ(d,_)=>bE (α:=(Z×eU×eU×bw)) (bB ((d==0)==bt) (bB a.2.2.2.1 (Y (1,aU,c,())) (Y (d,aU,c,()))) (Y (d,aU,c,()))) λ(e,f,l,_)=>(qA (l,())).bind λ(g,_)=>bB ((g==0)==bt) (Y (f,e,(!a.2.2.2.1),())) (Y (f,e,br,()))))
def DK:(xD×Z×Z×bw)->bA g2:=λ(c,e,d,_)=>bE (α:=(Z×bD×eU×eU×bw)) (bB (bz (e<=c.2.2.1)) ((oT (c.2.1,az (c.2.2.1-e),())).bind λ(aU,_)=>Y ((-1:Z),bt,(br,([],())),aU,())) ((Ar (c,az (e-c.2.2.1),())).bind λ(s,t,u,_)=>Y (t,u,(br,([],())),s,()))) λ(f,l,b,a,_)=>bE (α:=(bD×eU×eU×bw)) (bB l (Y (br,b,a,())) (bB (d==1) (Y (c.1,b,a,())) (bB (d==2) (Y ((!c.1),b,a,())) (bB (d==3) (Y (br,b,a,())) (bB (bz (f>0)==br) (bB ((f==0)==bt) ((qA (a,())).bind λ(n,_)=>bB ((n !=0)==bt) ((AC (a,())).bind λ(o,_)=>Y ((o==0),b,a,())) (Y (br,b,a,()))) (Y (br,b,a,()))) (Y (bt,b,a,()))))))) λ(k,i,g,_)=>bE (α:=lA) (bB k ((vx (1,())).bind λ(p,_)=>(tg (g,p,())).bind λ(q,_)=>Y (i,q,())) (Y (i,g,()))) λ(j,h,_)=>bE (α:=lA) (bB c.1 ((tj (h,())).bind λ(r,_)=>Y (j,r,())) (Y (j,h,()))) λ(_,m,_)=>Y (m,())
def te:g2->bA g2:=λ(a,_)=>(vD (a.2.1,())).bind λ(b,_)=>(my (br,b,())).bind λ(c,_)=>Y (c,())
def DY:g2->bA ep:=λ(c,_)=>(i5 (c.2.1,())).bind λ(d,_)=>(bif bz (ar d>2) then Y (0,br,()) else((loop (σ:=nA) (ρ:=cS) (λ(e,b,_)=>bB (bz (b<ar d)) ((aq d b).bind λj=>(iz bG (aR j) (az (32*b))).bind λk=>Y (.inl (gM bG e k,aO b,()))) (Y (.inr (e,())))) (0,0,())).bind λ(a,_)=>bE (α:=bw⊕ep) (bE (α:=gP) (bB (c.1==bt) (bB (bz (a>0)==bt) (Y (bz (a<=9223372036854775808),())) (Y (br,()))) (Y (br,()))) λ(h,_)=>bB h (Y (.inr (az (az (0-az (aR (a-1)))-1),bt,()))) (bE (α:=gP) (bB (bz (a<9223372036854775808)==bt) (bB ((!c.1)==br) (Y ((a==0),())) (Y (bt,()))) (Y (br,()))) λ(i,_)=>bB i (Y (.inr (az a,bt,()))) (Y (.inl ())))) λf=>match f with
 |.inl _=>(Y (0,br,()))
 |.inr g=>Y g))
def vw:ep->bA cS:=λ(a,b,_)=>(bB b (Y (gM bG a 9223372036854775808,())) (Y (a,())))
def DQ:es->bA cS:=λ(a,b,_)=>bE (α:=bw⊕cS) (bE (α:=gP) (bB ((b==3)==br) (bB ((b==1)==bt) (bB ((!a)==br) (bB ((b==2)==bt) (Y (a,())) (Y (br,()))) (Y (bt,()))) (bB ((b==2)==bt) (Y (a,())) (Y (br,())))) (Y (bt,()))) λ(f,_)=>bB f ((vw (9218868437227405311,a,())).bind λ(aU,_)=>Y (.inr (aU,()))) (Y (.inl ()))) λc=>match c with
 |.inl _=>((vw (9218868437227405312,a,())).bind λ(e,_)=>Y (e,()))
 |.inr d=>Y d
def Au:(xD×Z×bw)->bA cS:=λ(b,d,_)=>(DJ (b,())).bind λ(a,_)=>(DK (b,(if(-1074:Z)>az (a-52) then(-1074:Z) else az (a-52)),d,())).bind λ(aU,_)=>(te (aU,())).bind λ(j,_)=>(DY (j,())).bind λ(f,_,_)=>bE (α:=nA) (bB (aR f==9007199254740992) (Y (aO (if(-1074:Z)>az (a-52) then(-1074:Z) else az (a-52)),4503599627370496,())) (Y ((if(-1074:Z)>az (a-52) then(-1074:Z) else az (a-52)),aR f,()))) λ(e,c,_)=>(bB (bz (c<4503599627370496)) ((vw (c,b.1,())).bind λ(g,_)=>Y (g,())) (bB (bz (az (e+1075)>=2047)) ((DQ (b.1,d,())).bind λ(h,_)=>Y (h,())) ((iz bG (aR (az (e+1075))) 52).bind λk=>(vw (gM bG k (aR (c-4503599627370496)),b.1,())).bind λ(i,_)=>Y (i,()))))
def DM:cS->bA cS:=λ(c,_)=>(x1 (c,())).bind λ(a,b,_)=>bE (α:=gP) (bB ((a==2047)==bt) (Y ((b !=0),())) (Y (br,()))) λ(d,_)=>(bB d (Y (3,())) (bB (a==2047) (Y (2,())) (bB ((a==0)==bt) (bB (b==0) (Y (0,())) (Y (1,()))) (Y (1,())))))
def DX:lA->bA (eU×eU×Z×bw):=λ(a,d,_)=>(i5 (d.2.1,())).bind λ(b,_)=>(bB (ar b==0) (Y ((br,(([]:bj),())),(br,(([]:bj),())),8,())) ((i5 (a.2.1,())).bind λ(aU,_)=>(D2 (aU,b,())).bind λ(f,c,_)=>bE (α:=(bj×bj×eU×eU×bw)) (bE (α:=(bD×eU×eU×bw)) (bB (a.1==bt) (Y (bz (ar c>0),(br,([],())),(br,([],())),())) (Y (br,(br,([],())),(br,([],())),()))) λ(n,e,g,_)=>bB n ((x5 (f,[1],())).bind λ(j,_)=>(x4 (b,c,())).bind λ(k,_)=>Y (j,k,e,g,())) (Y (f,c,e,g,()))) λ(h,i,_,_,_)=>(my ((!(a.1==d.1)),h,())).bind λ(l,_)=>(my (br,i,())).bind λ(m,_)=>Y (l,m,0,())))
def DI:(e0×e0×Z×bw)->bA (xD×bw):=λ(a,b,c,_)=>(th (b.2.1,())).bind λ(aU,_)=>(th (a.2.1,())).bind λ(d,_)=>(te (a.2.1,())).bind λ(g,_)=>(oT (g,(if(az (az (az (c+3)+aU)-d))>0 then az (az (az (c+3)+aU)-d) else 0),())).bind λ(h,_)=>(te (b.2.1,())).bind λ(i,_)=>(DX (h,i,())).bind λ(j,e,_,_)=>(qA (e,())).bind λ(f,_)=>Y (((!(a.2.1.1==b.2.1.1)),(j,(az (az (a.2.2.1-(if(az (az (az (c+3)+aU)-d))>0 then az (az (az (c+3)+aU)-d) else 0))-b.2.2.1),((f !=0),())))),())
def td:(e0×e0×Z×bw)->bA cS:=λ(c,f,h,_)=>(vu (c,())).bind λ(aU,_)=>(vu (f,())).bind λ(a,_)=>bE (α:=j7⊕cS) (bE (α:=(bD×e0×e0×bw)) (bB (aU.1==br) (bB (a.1==br) ((pF (a,())).bind λ(n,_)=>Y ((n==0),aU,a,())) (Y (bt,aU,a,()))) (Y (bt,aU,a,()))) λ(o,b,g,_)=>bB o (Y (.inr (9221120237041090560,()))) ((pF (b,())).bind λ(k,_)=>bB (k==0) (Y (.inr (0,()))) (Y (.inl (b,g,()))))) λi=>match i with
 |.inl (d,e,_)=>((DI (d,e,56,())).bind λ(l,_)=>(Au (l,h,())).bind λ(m,_)=>Y (m,()))
 |.inr j=>Y j
def pI:cS->bA gP:=λ(a,_)=>(eT bG a 52).bind λb=>Y ((e3 bG b 2047 !=2047),())
def EY:cS->bA gP:=λ(a,_)=>Y ((e3 bG a 9223372036854775808 !=0),())
def jJ:cS->bA gL:=λ(a,_)=>(pI (a,())).bind λ(f,_)=>(bB (!f) ((tu ()).bind λ(g,_)=>Y (g,())) ((eT bG a 52).bind λc=>bE (α:=(Z×Z×e0×bw)) (bB (bz (az (e3 bG c 2047)>0)) (Y (gM bG (e3 bG a 4503599627370495) 4503599627370496,az (az (e3 bG c 2047)-1075),(br,((br,([],())),((0:Z),()))),())) (Y (e3 bG a 4503599627370495,(-1074:Z),(br,((br,([],())),((0:Z),()))),()))) λ(b,d,_,_)=>(EY (a,())).bind λ(h,_)=>(eT bG b 32).bind λi=>(oV ((h,([eD b,eD i],())),d,())).bind λ(e,_)=>Y (e,())))
def yk:gL->bA gL:=λ(b,_)=>(lE (b,())).bind λ(a,_)=>(bB a.1 (Y (a,())) ((rO (a.2.1,())).bind λ(c,_)=>(oV (c,a.2.2.1,())).bind λ(aU,_)=>Y (aU,())))
def A1:(nz×bw)->bA gL:=λ(h,_)=>(loop (σ:=(Z×Z×e0×eU×bw)) (ρ:=((Z×e0×eU×bw)⊕gL)) (λ(b,e,c,d,_)=>bif bz (e<ar h) then(bE (α:=(Z×e0×eU×bw)⊕((Z×Z×e0×eU×bw)⊕((Z×e0×eU×bw)⊕gL))) ((aq h e).bind λv=>(lE (v,())).bind λ(a,_)=>bB a.1 ((tu ()).bind λ(q,_)=>Y (.inr (.inr (.inr (q,()))))) ((mA (a.2.1,())).bind λ(r,_)=>bB (r==0) (Y (.inl (b,c,d,()))) ((mA (d,())).bind λ(k,_)=>bB (k==0) (Y (.inl (a.2.2.1,c,a.2.1,()))) (bB (bz (a.2.2.1>=b)) ((nE (a.2.1,az (a.2.2.1-b),())).bind λ(l,_)=>(qD (d,l,())).bind λ(m,_)=>Y (.inl (b,c,m,()))) ((nE (d,az (b-a.2.2.1),())).bind λ(n,_)=>(qD (n,a.2.1,())).bind λ(o,_)=>Y (.inl (a.2.2.1,c,o,()))))))) λf=>match f with
 |.inl (i,s,t,_)=>(Y (.inl (i,aO e,s,t,())))
 |.inr g=>Y g) else Y (.inr (.inl (b,c,d,())))) (0,0,(br,((br,([],())),((0:Z),()))),(br,(([]:bj),())),())).bind λf=>match f with
 |.inl (j,_,u,_)=>((oV (u,j,())).bind λ(p,_)=>Y (p,()))
 |.inr g=>Y g
def ER:j9->bA hD:=λ(d,b,_)=>(fS (az (ar d+ar b)) (az (ar d+ar b))).bind λl=>(loop (σ:=jh) (ρ:=hD) (λ(a,g,_)=>bB (bz (a<ar d)) ((loop (σ:=qq) (ρ:=jh) (λ(e,c,f,_)=>bB (bz (c<ar b)) ((aq d a).bind λj=>(aq b c).bind λh=>rd f (az (a+c)) λi=>wr f (az (a+c)) (eD (aR (aR (e+aR (aR j*aR h))+aR i))) λp=>(eT bG (aR (aR (e+aR (aR j*aR h))+aR i)) 32).bind λo=>Y (.inl (o,aO c,p,()))) (Y (.inr (e,f,())))) (0,0,g,())).bind λ(k,m,_)=>wr m (az (a+ar b)) (eD k) λq=>Y (.inl (aO a,q,()))) (Y (.inr (g,())))) (0,bJ l (0:Z),())).bind λ(n,_)=>Y (n,())
def EO:lA->bA g2:=λ(a,b,_)=>(m2 (a.2.1,())).bind λ(c,_)=>(m2 (b.2.1,())).bind λ(aU,_)=>(ER (c,aU,())).bind λ(d,_)=>(mB ((!(a.1==b.1)),d,())).bind λ(e,_)=>Y (e,())
def kc:j7->bA gL:=λ(d,f,_)=>(lE (d,())).bind λ(a,_)=>(lE (f,())).bind λ(aU,_)=>bE (α:=(e0×e0×e0×bw)⊕gL) (bE (α:=(bD×e0×e0×e0×bw)) (bB (a.1==br) (Y (aU.1,a,aU,(br,((br,([],())),((0:Z),()))),())) (Y (bt,a,aU,(br,((br,([],())),((0:Z),()))),()))) λ(m,e,g,n,_)=>bB m ((tu ()).bind λ(l,_)=>Y (.inr (l,()))) (Y (.inl (e,g,n,())))) λh=>match h with
 |.inl (b,c,_,_)=>((EO (b.2.1,c.2.1,())).bind λ(j,_)=>(oV (j,az (b.2.2.1+c.2.2.1),())).bind λ(k,_)=>Y (k,()))
 |.inr i=>Y i
def EU:gL->bA gL:=λ(b,_)=>(lE (b,())).bind λ(a,_)=>(bB a.1 (Y (a,())) ((AW (a.2.1,())).bind λ(c,_)=>(oV (c,a.2.2.1,())).bind λ(aU,_)=>Y (aU,())))
def AZ:(bj×bj×Z×Z×bw)->bA (bj×bD×bw):=λ(w,b,i,r,_)=>(fS (aO (ar b)) (aO (ar b))).bind λs=>(loop (σ:=(Z×Z×Z×bj×bj×bw)) (ρ:=(Z×bj×bj×bw)) (λ(d,h,a,g,f,_)=>bB (bz (a<=ar b)) (bE (α:=(Z×Z×bj×bj×bw)) (bE (α:=(Z×bj×bj×bw)) (bB (bz (a<ar b)) ((aq b a).bind λz=>Y (aR (h+aR (r*aR z)),g,f,())) (Y (h,g,f,()))) λ(e,k,t,_)=>rd k (az (a+i)) λn=>(eT bG e 32).bind λA=>wr t a (eD (aR (aR (aR n-d)-e3 bG e 4294967295))) λD=>(eT bG (aR (aR (aR n-d)-e3 bG e 4294967295)) 63).bind λB=>Y (B,A,k,D,())) λ(o,q,x,u,_)=>Y (.inl (o,q,aO a,x,u,()))) (Y (.inr (d,g,f,())))) (0,0,0,w,bJ s (0:Z),())).bind λ(p,l,v,_)=>
 (bB (p !=0) (Y (l,br,())) ((loop (σ:=(Z×bj×bj×bw)) (ρ:=hD) (λ(c,m,j,_)=>bB (bz (c<=ar b)) (rd j c λC=>wr m (az (c+i)) C λE=>Y (.inl (aO c,E,j,()))) (Y (.inr (m,())))) (0,l,v,())).bind λ(y,_)=>Y (y,bt,())))
def EQ:j9->bA j9:=λ(b,a,_)=>(AX (b,a,())).bind λ(u,_)=>(bif bz (u<0) then Y ([],b,()) else(aq a (az (ar a-1))).bind λE=>(vB (E,())).bind λ(i,_)=>(yi (b,i,())).bind λ(e,_)=>(yi (a,i,())).bind λ(f,_)=>((Y (0)).bind λj=>(gF (ar a)).bind λk=>(he j k f.length).bind λ_=>(oi f.length).map λ_=>(j,k)).bind λd=>bE (α:=j9) (bB (ar e==ar b) ((cI (e.length+([0]).length)).bind λ_=>Y (((f.take d.2).drop d.1),(e++[0]),())) (Y (((f.take d.2).drop d.1),e,()))) λ(o,A,_)=>(fS (aO (az (ar b-ar a))) (aO (az (ar b-ar a)))).bind λr=>(loop (σ:=(Z×bj×bj×bw)) (ρ:=j9) (λ(c,g,m,_)=>bif bz (c>=0) then rd g (az (c+ar a)) λF=>(iz bG (aR F) 32).bind λG=>rd g (az (az (c+ar a)-1)) λH=>
 (aq o (az (ar a-1))).bind λI=>(kT bG (gM bG G (aR H)) (aR I)).bind λp=>(loop (σ:=(Z×bj×bj×bw)) (ρ:=(Z×bj×bj×bw)) (λ(h,B,n,_)=>(AZ (B,o,c,h,())).bind λ(l,v,_)=>bB (!v) (Y (.inl (aR (h-1),l,n,()))) (Y (.inr (h,l,n,())))) ((if 4294967295<p then 4294967295 else p),g,m,())).bind λ(q,C,s,_)=>wr s c (eD q) λJ=>Y (.inl (az (c-1),C,J,())) else Y (.inr (g,m,()))) (az (ar b-ar a),A,bJ r (0:Z),())).bind λ(D,t,_)=>(m2 (D,())).bind λ(w,_)=>(yj (w,i,())).bind λ(x,_,_)=>(m2 (t,())).bind λ(y,_)=>(m2 (x,())).bind λ(z,_)=>Y (y,z,()))
def EM:lA->bA lA:=λ(e,f,_)=>(qE (e,())).bind λ(a,_)=>(qE (f,())).bind λ(aU,_)=>(EQ (a.2.1,aU.2.1,())).bind λ(m,n,_)=>(mB ((!(a.1==aU.1)),m,())).bind λ(b,_)=>(mB (a.1,n,())).bind λ(c,_)=>bE (α:=(eU×eU×eU×eU×bw)) ((mA (c,())).bind λ(o,_)=>bB (bz (o<0)) ((rO (aU,())).bind λ(h,_)=>(qD (c,h,())).bind λ(d,_)=>bB aU.1 ((tr (1,())).bind λ(i,_)=>(qD (b,i,())).bind λ(j,_)=>Y ((br,([],())),(br,([],())),j,d,())) ((tr (1,())).bind λ(k,_)=>(yh (b,k,())).bind λ(l,_)=>Y ((br,([],())),(br,([],())),l,d,()))) (Y ((br,([],())),(br,([],())),b,c,()))) λ(_,_,g,p,_)=>Y (g,p,())
def EL:lA->bA cS:=λ(a,b,_)=>(yh (a,b,())).bind λ(c,_)=>(mA (c,())).bind λ(aU,_)=>Y (aU,())
def A0:gL->bA cS:=λ(b,_)=>(lE (b,())).bind λ(a,_)=>(bB a.1 (Y (0,())) ((mA (a.2.1,())).bind λ(c,_)=>Y (c,())))
def EV:(eU×eU×Z×bw)->bA (eU×Z×bD×bw):=λ(c,d,a,_)=>(vG (d,())).bind λ(aU,_)=>(vG (c,())).bind λ(b,_)=>(nE (c,(if 0>az (az (az (a+2)+aU)-b) then 0 else az (az (az (a+2)+aU)-b)),())).bind λ(e,_)=>(EM (e,d,())).bind λ(f,g,_)=>(mA (g,())).bind λ(h,_)=>Y (f,az (0-(if 0>az (az (az (a+2)+aU)-b) then 0 else az (az (az (a+2)+aU)-b))),(h !=0),())
def EZ:(e0×e0×Z×bw)->bA cS:=λ(d,e,f,_)=>(lE (d,())).bind λ(aU,_)=>(lE (e,())).bind λ(c,_)=>bE (α:=j7⊕cS) (bB (aU.1==br) (bB (c.1==br) ((mA (c.2.1,())).bind λ(o,_)=>bB (o==0) (Y (.inr (9221120237041090560,()))) (Y (.inl (aU,c,())))) (Y (.inr (9221120237041090560,())))) (Y (.inr (9221120237041090560,())))) λg=>match g with
 |.inl (a,b,_)=>((mA (a.2.1,())).bind λ(p,_)=>bB (p==0) (Y (0,())) ((rO (a.2.1,())).bind λ(i,_)=>(rO (b.2.1,())).bind λ(j,_)=>(EV (i,j,60,())).bind λ(k,l,m,_)=>(A3 ((!(a.2.1.1==b.2.1.1)),k,az (az (a.2.2.1-b.2.2.1)+l),m,f,())).bind λ(n,_)=>Y (n,())))
 |.inr h=>Y h
def tx:j7->bA (eU×eU×Z×bw):=λ(a,b,_)=>(mA (a.2.1,())).bind λ(c,_)=>(bB (c==0) (Y (a.2.1,b.2.1,b.2.2.1,())) ((mA (b.2.1,())).bind λ(aU,_)=>bB (aU==0) (Y (a.2.1,b.2.1,a.2.2.1,())) (bB (bz (a.2.2.1>b.2.2.1)) ((nE (a.2.1,az (a.2.2.1-b.2.2.1),())).bind λ(d,_)=>Y (d,b.2.1,b.2.2.1,())) ((nE (b.2.1,az (b.2.2.1-a.2.2.1),())).bind λ(e,_)=>Y (a.2.1,e,a.2.2.1,())))))
def ts:j7->bA gL:=λ(b,f,_)=>(lE (b,())).bind λ(a,_)=>(lE (f,())).bind λ(aU,_)=>bE (α:=(e0×e0×e0×bw)⊕gL) (bE (α:=(bD×e0×e0×e0×bw)) (bB (a.1==br) (Y (aU.1,a,aU,(br,((br,([],())),((0:Z),()))),())) (Y (bt,a,aU,(br,((br,([],())),((0:Z),()))),()))) λ(p,d,g,q,_)=>bB p ((tu ()).bind λ(o,_)=>Y (.inr (o,()))) (Y (.inl (d,g,q,())))) λh=>match h with
 |.inl (c,e,_,_)=>((tx (c,e,())).bind λ(j,k,l,_)=>(qD (j,k,())).bind λ(m,_)=>(oV (m,l,())).bind λ(n,_)=>Y (n,()))
 |.inr i=>Y i
def tw:j7->bA gL:=λ(a,b,_)=>(EU (b,())).bind λ(c,_)=>(ts (a,c,())).bind λ(aU,_)=>Y (aU,())
def ES:j7->bA ep:=λ(b,e,_)=>(lE (b,())).bind λ(a,_)=>(lE (e,())).bind λ(aU,_)=>bE (α:=j7⊕ep) (bE (α:=(bD×e0×e0×bw)) (bB (a.1==br) (Y (aU.1,a,aU,())) (Y (bt,a,aU,()))) λ(m,c,f,_)=>bB m (Y (.inr (0,br,()))) (Y (.inl (c,f,())))) λh=>match h with
 |.inl (d,g,_)=>((tx (d,g,())).bind λ(j,k,_,_)=>(EL (j,k,())).bind λ(l,_)=>Y (l,bt,()))
 |.inr i=>Y i
def pE:cS->bA gL:=λ(a,_)=>(vx (a,())).bind λ(b,_)=>(tc (b,0,())).bind λ(c,_)=>Y (c,())
def As:j7->bA (eU×eU×Z×bw):=λ(a,b,_)=>(oT (a.2.1,az (a.2.2.1-(if b.2.2.1<a.2.2.1 then b.2.2.1 else a.2.2.1)),())).bind λ(c,_)=>(oT (b.2.1,az (b.2.2.1-(if b.2.2.1<a.2.2.1 then b.2.2.1 else a.2.2.1)),())).bind λ(aU,_)=>Y (c,aU,(if b.2.2.1<a.2.2.1 then b.2.2.1 else a.2.2.1),())
def Aq:j7->bA gL:=λ(a,b,_)=>(xZ (a,b,())).bind λ(e,aU,f,_)=>(bB (!f) ((xY ()).bind λ(g,_)=>Y (g,())) ((As (e,aU,())).bind λ(h,i,j,_)=>(tg (h,i,())).bind λ(c,_)=>(tc (c,j,())).bind λ(d,_)=>Y (d,())))
def vv:j7->bA gL:=λ(a,b,_)=>(DH (b,())).bind λ(c,_)=>(Aq (a,c,())).bind λ(aU,_)=>Y (aU,())
def DG:gL->bA gL:=λ(b,_)=>(oU (b,())).bind λ(a,d,_)=>bE (α:=j7) (bB d ((te (a.2.1,())).bind λ(aU,_)=>Y ((a.1,(aU,a.2.2)),(br,((br,([],())),((0:Z),()))),())) (Y (a,(br,((br,([],())),((0:Z),()))),()))) λ(c,_,_)=>Y (c,())
def xX:j7->bA ep:=λ(a,b,_)=>(xZ (a,b,())).bind λ(c,aU,d,_)=>(bB (!d) (Y (0,br,())) ((As (c,aU,())).bind λ(e,f,_,_)=>(AB (e,f,())).bind λ(g,_)=>Y (g,bt,())))
def Es:ej->bA gP:=λ(a,c,b,_)=>(bB (bz (a>=c)==bt) (Y (bz (a<=b),())) (Y (br,())))
def Ez:hD->bA gP:=λ(b,_)=>(loop (σ:=cS) (ρ:=mv) (λ(a,_)=>bB (bz (a>0)) ((aq b a).bind λf=>(aq b (az (a-1))).bind λg=>(vt (f,g,())).bind λ(e,_)=>bB e (Y (.inr (.inr (br,())))) (Y (.inl (az (a-1),())))) (Y (.inr (.inl ())))) (az (ar b-1),())).bind λc=>match c with
 |.inl _=>(Y (bt,()))
 |.inr d=>Y d
def Ep:nB->bA gP:=λ(a,_)=>bE (α:=bw⊕gP) (bB ((ar a.2.2.1 !=aO a.2.1)==br) ((aq a.2.2.1 0).bind λm=>bB ((m !=0)==br) ((Ez (a.2.2.1,())).bind λ(l,_)=>bB ((!l)==br) ((aq a.2.2.1 a.2.1).bind λn=>bB ((n !=ar a.2.2.2.1)==br) (bB (ar a.2.2.2.1 !=ar a.2.2.2.2.1) (Y (.inr (br,()))) (Y (.inl ()))) (Y (.inr (br,())))) (Y (.inr (br,())))) (Y (.inr (br,())))) (Y (.inr (br,())))) λb=>match b with
 |.inl _=>((loop (σ:=cS) (ρ:=mv) (λ(e,_)=>bif bz (e<a.2.1) then((aq a.2.2.1 e).bind λo=>(aq a.2.2.1 (aO e)).bind λp=>((gF o).bind λh=>(gF p).bind λi=>(he h i (a.2.2.2.1).length).map λ_=>(h,i)).bind λd=>(loop (σ:=nA) (ρ:=(bw⊕(cS⊕mv))) (λ(j,f,_)=>bif bz (f<ar (((a.2.2.2.1).take d.2).drop d.1)) then(bE (α:=cS⊕(nA⊕(bw⊕(cS⊕mv)))) ((aq (((a.2.2.2.1).take d.2).drop d.1) f).bind λg=>bE (α:=bw⊕(cS⊕(nA⊕(bw⊕(cS⊕mv))))) (bB (bz (g<=j)==br) (bB (bz (g>=a.1)) (Y (.inr (.inr (.inr (.inr (.inr (.inr (br,())))))))) (Y (.inl ()))) (Y (.inr (.inr (.inr (.inr (.inr (.inr (br,()))))))))) λb=>match b with
 |.inl _=>(Y (.inl (g,())))
 |.inr c=>Y c) λb=>match b with
 |.inl (k,_)=>(Y (.inl (k,aO f,())))
 |.inr c=>Y c) else Y (.inr (.inl ()))) ((-1:Z),0,())).bind λb=>match b with
 |.inl _=>(Y (.inl (aO e,())))
 |.inr c=>Y c) else Y (.inr (.inl ()))) (0,())).bind λb=>match b with
 |.inl _=>(Y (bt,()))
 |.inr c=>Y c)
 |.inr c=>Y c
def IK:cS->bA gP:=λ(a,_)=>(pG (a,())).bind λ(b,_)=>Y ((!b),())
def IM:(bj×bw×bw)->bA cS:=λ(b,_,_)=>(loop (σ:=cS) (ρ:=nX) (λ(a,_)=>bB (bz (a<ar b)) ((aq b a).bind λf=>(IK (f,())).bind λ(e,_)=>bB e (Y (.inr (.inr (a,())))) (Y (.inl (aO a,())))) (Y (.inr (.inl ())))) (0,())).bind λc=>match c with
 |.inl _=>(Y ((-1:Z),()))
 |.inr d=>Y d
def Et:(bj×bw×bw)->bA gP:=λ(b,_,_)=>(IM (b,(),())).bind λ(a,_)=>Y (bz (a>=0),())
def tn:nB->bA cS:=λ(a,_)=>bE (α:=gP) ((Es (a.1,0,200,())).bind λ(b,_)=>bB ((!b)==br) ((Es (a.2.1,0,200,())).bind λ(c,_)=>bB ((!c)==br) (Y (bz (ar a.2.2.2.1>10000),())) (Y (bt,()))) (Y (bt,()))) λ(f,_)=>(bB f (Y (6,())) ((Ep (a,())).bind λ(d,_)=>bB (!d) (Y (1,())) ((Et (a.2.2.2.2.1,(),())).bind λ(e,_)=>bB e (Y (4,())) (Y (0,())))))
def Fi:nY->bA (bj×bD×bw):=λ(h,a,_)=>(bif ar h !=a then Y ([],br,()) else((fS a a).bind λi=>(fS a a).bind λj=>(loop (σ:=(Z×bj×gQ×bw)) (ρ:=(hD⊕(bj×bD×bw))) (λ(f,e,g,_)=>bif bz (f<ar h) then(bE (α:=(bj×gQ×bw)⊕((Z×bj×gQ×bw)⊕(hD⊕(bj×bD×bw)))) ((aq h f).bind λd=>bE (α:=(bj×gQ×bw)⊕((bj×gQ×bw)⊕((Z×bj×gQ×bw)⊕(hD⊕(bj×bD×bw))))) (bE (α:=(bD×bj×gQ×bw)) (bB (bz (d<0)==br) (bB (bz (d>=a)==br) (rd g d λs=>Y (s,e,g,())) (Y (bt,e,g,()))) (Y (bt,e,g,()))) λ(o,k,p,_)=>bB o (Y (.inr (.inr (.inr (.inr ([],br,())))))) (Y (.inl (k,p,())))) λb=>match b with
 |.inl (l,q,_)=>(wr l d f λt=>wr q d bt λu=>Y (.inl (t,u,())))
 |.inr c=>Y c) λb=>match b with
 |.inl (m,r,_)=>(Y (.inl (aO f,m,r,())))
 |.inr c=>Y c) else Y (.inr (.inl (e,())))) (0,bJ i (0:Z),bJ j br,())).bind λb=>match b with
 |.inl (n,_)=>(Y (n,bt,()))
 |.inr c=>Y c))
def yc:nB->bA j8:=λ(b,_)=>(loop (σ:=oP) (ρ:=j8) (λ(a,e,_)=>bB (bz (a<b.2.1)) ((aq b.2.2.1 a).bind λj=>(loop (σ:=oP) (ρ:=j8) (λ(c,d,_)=>(aq b.2.2.1 (aO a)).bind λk=>bB (bz (c<k)) ((aq b.2.2.2.1 c).bind λf=>(aq b.2.2.2.2.1 c).bind λg=>(cI (d.length+([(f,(a,(g,())))]).length)).bind λ_=>Y (.inl (aO c,(d++[(f,(a,(g,())))]),()))) (Y (.inr (d,())))) (j,e,())).bind λ(h,_)=>Y (.inl (aO a,h,()))) (Y (.inr (e,())))) (0,[],())).bind λ(i,_)=>Y (i,())
def IL:j8->bA j8:=λ(a,_)=>sh a.length (Y ([],())) ((cI (([]:lB).length+a.length)).bind λ_=>Y (([]++a),()))
def ye:((Z×(Z×cS))×(Z×(Z×cS))×bw)->bA cS:=λ(a,b,_)=>(vr (a.2.1,b.2.1,())).bind λ(c,_)=>(vr (a.1,b.1,())).bind λ(aU,_)=>(DE ([c,aU],())).bind λ(d,_)=>Y (d,())
def AQ:(lB×Z×Z×bw×bw)->bA j8:=λ(h,e,g,_,_)=>(loop (σ:=oP) (ρ:=j8) (λ(d,f,_)=>bif bz (d<g) then(loop (σ:=oP) (ρ:=j8) (λ(a,b,_)=>bE (α:=j8⊕(oP⊕j8)) (bB (bz (a>e)==bt) (rd b a λn=>rd b (az (a-1)) λo=>(ye (n,o,())).bind λ(m,_)=>bB (bz (m<0)) (Y (.inl (b,()))) (Y (.inr (.inr (b,()))))) (Y (.inr (.inr (b,()))))) λk=>match k with
 |.inl (c,_)=>(rd c (az (a-1)) λp=>rd c a λq=>wr c a p λr=>wr r (az (a-1)) q λs=>Y (.inl (az (a-1),s,())))
 |.inr l=>Y l) (d,f,())).bind λ(i,_)=>Y (.inl (aO d,i,())) else Y (.inr (f,()))) (aO e,h,())).bind λ(j,_)=>Y (j,())
def EG:VH->bA j8:=λ(h,e,a,g,_,_)=>(bB (az (a-e)==1) bv (bB (az (g-a)==1) ((loop (σ:=z7) (ρ:=oP) (λ(c,d,b,_)=>bB (bz (c<d)) ((eT bG (aR (az (c+d))) 1).bind λf=>rd b a λo=>rd b (az f) λp=>(ye (o,p,())).bind λ(n,_)=>bB (!(bz (n<0))) (Y (.inl (aO (az f),d,b,()))) bv) (Y (.inr (c,b,())))) (e,a,h,())).bind λ(l,i,_)=>(loop (σ:=oP) (ρ:=j8) (λ(m,j,_)=>bB (bz (m>l)) bv (Y (.inr (j,())))) (a,i,())).bind λ(k,_)=>Y (k,())) bv))
def IU:(lB×Z×bw×bw)->bA j8:=λ(l,a,_,_)=>(loop (σ:=z7) (ρ:=oP) (λ(e,c,h,_)=>bB (bz (c<=a)) ((AQ (h,e,c,(),())).bind λ(s,_)=>Y (.inl (c,az (c+20),s,()))) (Y (.inr (e,h,())))) (0,20,l,())).bind λ(j,p,_)=>(AQ (p,j,a,(),())).bind λ(q,_)=>(loop (σ:=oP) (ρ:=j8) (λ(b,f,_)=>bB (bz (b<a)) ((loop (σ:=z7) (ρ:=oP) (λ(i,k,m,_)=>bB (bz (k<=a)) bv (Y (.inr (i,m,())))) (0,az (2*b),f,())).bind λ(d,g,_)=>bE (α:=j8) (bB (bz (az (d+b)<a)) ((EG (g,d,az (d+b),a,(),())).bind λ(r,_)=>Y (r,())) (Y (g,()))) λ(n,_)=>Y (.inl (az (b*2),n,()))) (Y (.inr (f,())))) (20,q,())).bind λ(o,_)=>
 Y (o,())
def IS:(lB×bw×bw)->bA j8:=λ(a,_,_)=>(IU (a,ar a,(),())).bind λ(b,_)=>Y (b,())
def Er:j8->bA j8:=λ(a,_)=>(IL (a,())).bind λ(c,_)=>(IS (c,(),())).bind λ(b,_)=>Y (b,())
def Eo:z7->bA nB:=λ(s,e,o,_)=>(fS (aO e) (aO e)).bind λr=>(Er (o,())).bind λ(i,_)=>(loop (σ:=(Z×dh×dh×lB×bw)) (ρ:=(dh×dh×bw)) (λ(f,k,a,l,_)=>bB (bz (f<ar i)) (rd l f λc=>(cI ((a.2.2.2.1).length+([c.1]).length)).bind λ_=>(cI ((a.2.2.2.2.1).length+([c.2.2.1]).length)).bind λ_=>(bm (a.2.2.1).length (aO c.2.1)).bind λn=>(ba a.2.2.1 n λm=>Y m).bind λu=>(bm (a.2.2.1).length (aO c.2.1)).bind λg=>((((ba a.2.2.1 g λ_=>Y ((a.2.2.1).set g (aO u))).map λx=>(x,((a.2.2.2.1++[c.1]),((a.2.2.2.2.1++[c.2.2.1]),a.2.2.2.2.2)))).map λy=>(a.2.1,y)).map λz=>(a.1,z)).bind λA=>Y (.inl (aO f,k,A,l,()))) (Y (.inr (k,a,())))) (0,((0:Z),((0:Z),([],([],([],()))))),(s,(e,(bJ r (0:Z),(([]:bj),(([]:bj),()))))),i,())).bind λ(t,p,_)=>(loop (σ:=(Z×dh×dh×bw)) (ρ:=(dh×dh×bw)) (λ(d,j,b,_)=>
 bB (bz (d<e)) (rd b.2.2.1 (aO d) λv=>rd b.2.2.1 d λw=>(bm (b.2.2.1).length (aO d)).bind λh=>((((ba b.2.2.1 h λ_=>Y ((b.2.2.1).set h (az (v+w)))).map λB=>(B,b.2.2.2)).map λC=>(b.2.1,C)).map λD=>(b.1,D)).bind λE=>Y (.inl (aO d,j,E,()))) (Y (.inr (j,b,())))) (0,t,p,())).bind λ(_,q,_)=>Y (q,())
def En:nB->bA (dh×Z×bw):=λ(a,_)=>(tn (a,())).bind λ(aU,_)=>(bB (aU !=0) (Y (((0:Z),((0:Z),(([]:bj),(([]:bj),(([]:bj),()))))),aU,())) ((yc (a,())).bind λ(g,_)=>(loop (σ:=(Z×dh×lB×lB×bw)) (ρ:=(dh×lB×bw)) (λ(d,e,b,f,_)=>bB (bz (d<ar g)) (bE (α:=(dh×lB×lB×bw)) (rd f d λc=>bB (bz (c.1>=c.2.1)) ((cI (b.length+([c]).length)).bind λ_=>Y (e,(b++[c]),f,())) (Y (e,b,f,()))) λ(k,h,l,_)=>Y (.inl (aO d,k,h,l,()))) (Y (.inr (e,b,())))) (0,((0:Z),((0:Z),([],([],([],()))))),[],g,())).bind λ(_,i,_)=>(Eo (a.1,a.2.1,i,())).bind λ(j,_)=>Y (j,0,())))
def Em:nB->bA j8:=λ(a,_)=>(tn (a,())).bind λ(aU,_)=>(bB (aU !=0) (Y ([],())) ((yc (a,())).bind λ(b,_)=>Y (b,())))
def Aw:nB->bA ((bp bj×bw)×Z×bw):=λ(a,_)=>(tn (a,())).bind λ(c,_)=>(bB (c !=0) (Y ((([]:bp bj),()),c,())) (bB (a.1 !=a.2.1) (Y ((([]:bp bj),()),5,())) ((Ax (a.2.1,())).bind λ(j,_)=>(Em (a,())).bind λ(aU,_)=>(loop (σ:=(Z×(bp bj×bw)×bp gQ×lB×bw)) (ρ:=((bp bj×bw)×bp gQ×bw)) (λ(b,d,e,f,_)=>bB (bz (b<ar aU)) (rd f b λg=>(AA (e,g.1,g.2.1,())).bind λ(h,_)=>Y (.inl (aO b,d,h,f,()))) (Y (.inr (d,e,())))) (0,([],()),j,aU,())).bind λ(_,k,_)=>(Az (k,())).bind λ(i,_)=>Y (i,0,()))))
def qF:(dh×bj×bw)->bA (bA rF×Z×bw):=λ(a,q,_)=>(tn (a,())).bind λ(r,_)=>(bif r !=0 then Y (bv,r,()) else bif a.1 !=a.2.1 then Y (bv,5,()) else(Fi (q,a.2.1,())).bind λ(s,D,_)=>bif !D then Y (bv,90,()) else(En (a,())).bind λ(E,_,_)=>(Aw (E,())).bind λ(F,_,_)=>(Ay (F,q,())).bind λ(G,_,_)=>(fS a.2.1 a.2.1).bind λp=>(loop (σ:=(Z×dh×rF×bw)) (ρ:=(dh×rF×bw)) (λ(j,k,c,_)=>bB (bz (j<ar (bJ p (bv:bA (bp (Z×e0)×X))))) ((bm (c.2.2.1).length j).bind λn=>((((ba c.2.2.1 n λ_=>Y ((c.2.2.1).set n (Y ([],0)))).map λL=>(L,c.2.2.2)).map λM=>(c.2.1,M)).map λN=>(c.1,N)).bind λO=>Y (.inl (aO j,k,O,()))) (Y (.inr (k,c,())))) (0,a,(a.2.1,(G,(bJ p (bv:bA (bp (Z×e0)×X)),()))),())).bind λ(l,y,_)=>
 (loop (σ:=(Z×dh×rF×bw)) (ρ:=(rF×bw)) (λ(e,m,o,_)=>bif bz (e<l.2.1) then(aq m.2.2.1 e).bind λI=>(loop (σ:=(Z×dh×rF×bw)) (ρ:=(dh×rF×bw)) (λ(f,d,b,_)=>(aq d.2.2.1 (aO e)).bind λJ=>bB (bz (f<J)) (bE (α:=(dh×rF×bw)) ((aq d.2.2.2.1 f).bind λt=>bB (bz (t>=e)) ((aq s t).bind λg=>(aq s e).bind λh=>(bm (b.2.2.1).length (if h<g then h else g)).bind λi=>(aq d.2.2.2.2.1 f).bind λK=>(ld (K,())).bind λ(H,_)=>(ba b.2.2.1 i λw=>Y w).bind λB=>(BK B (if h>g then h else g) H).bind λC=>((((ba b.2.2.1 i λ_=>Y ((b.2.2.1).set i C)).map λP=>(P,b.2.2.2)).map λQ=>(b.2.1,Q)).map λR=>(b.1,R)).bind λS=>Y (d,S,())) (Y (d,b,()))) λ(u,z,_)=>Y (.inl (aO f,u,z,()))) (Y (.inr (d,b,())))) (I,m,o,())).bind λ(v,A,_)=>
 Y (.inl (aO e,v,A,())) else Y (.inr (o,()))) (0,l,y,())).bind λ(x,_)=>Y (Y x,0,()))
def vR:(bA rF×Z×Z×bw)->bA gL:=λ(c,a,b,_)=>c.bind λd=>(aq d.2.2.1 (if b<a then b else a)).bind λe=>Y (((hk (α:=e0) e (if b>a then b else a)).getD (br,((br,([],())),((0:Z),())))),())
def AU:j9->bA gP:=λ(b,c,_)=>(bif ar b !=ar c then Y (br,()) else((loop (σ:=cS) (ρ:=mv) (λ(a,_)=>bB (bz (a<ar b)) ((aq b a).bind λf=>(aq c a).bind λg=>bB (f !=g) (Y (.inr (.inr (br,())))) (Y (.inl (aO a,())))) (Y (.inr (.inl ())))) (0,())).bind λd=>match d with
 |.inl _=>(Y (bt,()))
 |.inr e=>Y e))
def qC:nA->bA cS:=λ(a,b,_)=>(jq (aR a) (aR b)).bind λc=>Y (az c,())
def vF:nY->bA cS:=λ(b,a,_)=>bE (α:=cS) (bB (bz (ar b>0)) ((qC (a,ar b,())).bind λ(e,_)=>(aq b e).bind λf=>Y (uF bG (aR (aR (aO a)*11400714819323198485)) f,())) (Y (aR (aR (aO a)*11400714819323198485),()))) λ(c,_)=>(eT bG c 31).bind λd=>(eT bG (aR (uF bG c d*13787848793156543929)) 29).bind λg=>Y (uF bG (aR (uF bG c d*13787848793156543929)) g,())
def IV:cS->bA cS:=λ(b,_)=>(jq b 19).bind λc=>(EX (az (az c-9),0,())).bind λ(a,_)=>Y (a,())
def vE:nA->bA cS:=λ(a,e,_)=>(qC (e,4,())).bind λ(b,_)=>(bB (b==1) ((eT bG a 52).bind λf=>(iz bG (aR (1019+e3 bG f 7)) 52).bind λg=>Y (gM bG (e3 bG a 9227875636482146303) g,())) (bB (b==2) ((eT bG a 8).bind λh=>(jq h 81).bind λi=>(iz bG (aR (983+i)) 52).bind λj=>Y (gM bG (e3 bG a 9225623836668461056) j,())) (bB (b==3) ((pI (a,())).bind λ(d,_)=>bB (!d) (Y (0,())) (Y (a,()))) ((IV (a,())).bind λ(c,_)=>Y (c,())))))
def tp:(bj×Z×Z×Z×bw)->bA nB:=λ(n,e,g,q,_)=>(loop (σ:=(Z×dh×dh×bw)) (ρ:=(dh×dh×bw)) (λ(d,k,h,_)=>bif bz (d<g) then(loop (σ:=(Z×dh×dh×bw)) (ρ:=(dh×dh×bw)) (λ(c,f,a,_)=>bB (bz (c<e)) (bE (α:=(dh×dh×bw)) ((vF (n,az (az (100+az (d*e))+c),())).bind λ(i,_)=>(eT bG i 40).bind λr=>(jq r 3).bind λs=>bB (bz (s>0)) ((cI ((a.2.2.2.1).length+([c]).length)).bind λ_=>(vE (i,q,())).bind λ(j,_)=>(cI ((a.2.2.2.2.1).length+([j]).length)).bind λ_=>Y (f,(a.1,(a.2.1,(a.2.2.1,((a.2.2.2.1++[c]),((a.2.2.2.2.1++[j]),a.2.2.2.2.2))))),())) (Y (f,a,()))) λ(o,l,_)=>Y (.inl (aO c,o,l,()))) (Y (.inr (f,a,())))) (0,k,h,())).bind λ(p,b,_)=>(cI ((b.2.2.1).length+([ar b.2.2.2.1]).length)).bind λ_=>Y (.inl (aO d,p,(b.1,(b.2.1,((b.2.2.1++[ar b.2.2.2.1]),b.2.2.2))),())) else
 Y (.inr (k,h,()))) (0,((0:Z),((0:Z),([],([],([],()))))),(e,(g,([0],(([]:bj),(([]:bj),()))))),())).bind λ(_,m,_)=>Y (m,())
def E0:hD->bA gP:=λ(b,_)=>(loop (σ:=cS) (ρ:=mv) (λ(a,_)=>bB (bz (a<ar b)) ((aq b a).bind λe=>(pI (e,())).bind λ(aU,_)=>bB (!aU) (Y (.inr (.inr (br,())))) (Y (.inl (aO a,())))) (Y (.inr (.inl ())))) (0,())).bind λc=>match c with
 |.inl _=>(Y (bt,()))
 |.inr d=>Y d
def rR:nB->bA cS:=λ(a,_)=>bE (α:=bw⊕cS) (bB (bz (a.1<0)==br) (bB (bz (a.1>200)==br) (bB (bz (a.2.1<0)==br) (bB (bz (a.2.1>200)==br) (bB (bz (ar a.2.2.2.1>10000)) (Y (.inr (6,()))) (Y (.inl ()))) (Y (.inr (6,())))) (Y (.inr (6,())))) (Y (.inr (6,())))) (Y (.inr (6,())))) λb=>match b with
 |.inl _=>(bE (α:=bw⊕cS) (bB ((ar a.2.2.2.2.1 !=ar a.2.2.2.1)==br) (bB ((ar a.2.2.1 !=aO a.2.1)==br) ((aq a.2.2.1 0).bind λn=>bB ((n !=0)==br) ((aq a.2.2.1 a.2.1).bind λo=>bB (o !=ar a.2.2.2.1) (Y (.inr (1,()))) (Y (.inl ()))) (Y (.inr (1,())))) (Y (.inr (1,())))) (Y (.inr (1,())))) λb=>match b with
 |.inl _=>((loop (σ:=cS) (ρ:=nX) (λ(f,_)=>bB (bz (f<a.2.1)) ((aq a.2.2.1 f).bind λp=>(aq a.2.2.1 (aO f)).bind λq=>bB (bz (p>q)) (Y (.inr (.inr (1,())))) (Y (.inl (aO f,())))) (Y (.inr (.inl ())))) (0,())).bind λb=>match b with
 |.inl _=>((loop (σ:=cS) (ρ:=nX) (λ(e,_)=>bif bz (e<a.2.1) then((aq a.2.2.1 e).bind λr=>(loop (σ:=cS) (ρ:=(bw⊕(cS⊕nX))) (λ(d,_)=>(aq a.2.2.1 (aO e)).bind λh=>bif bz (d<h) then(bE (α:=bw⊕(cS⊕(bw⊕(cS⊕nX)))) ((aq a.2.2.2.1 d).bind λi=>bB (bz (i<0)==br) ((aq a.2.2.2.1 d).bind λj=>bB (bz (j>=a.1)==br) ((aq a.2.2.1 e).bind λk=>bB (bz (d>k)==bt) ((aq a.2.2.2.1 d).bind λl=>(aq a.2.2.2.1 (az (d-1))).bind λm=>bB (bz (l<=m)) (Y (.inr (.inr (.inr (.inr (.inr (1,()))))))) (Y (.inl ()))) (Y (.inl ()))) (Y (.inr (.inr (.inr (.inr (.inr (1,())))))))) (Y (.inr (.inr (.inr (.inr (.inr (1,())))))))) λb=>match b with
 |.inl _=>(Y (.inl (aO d,())))
 |.inr c=>Y c) else Y (.inr (.inl ()))) (r,())).bind λb=>match b with
 |.inl _=>(Y (.inl (aO e,())))
 |.inr c=>Y c) else Y (.inr (.inl ()))) (0,())).bind λb=>match b with
 |.inl _=>((E0 (a.2.2.2.2.1,())).bind λ(g,_)=>bB (!g) (Y (4,())) (Y (0,())))
 |.inr c=>Y c)
 |.inr c=>Y c)
 |.inr c=>Y c)
 |.inr c=>Y c
def tz:(dh×Z×Z×bw)->bA cS:=λ(a,f,b,_)=>bE (α:=bw⊕cS) ((rR (a,())).bind λ(aU,_)=>bB ((aU !=0)==br) (bB (bz (b<0)==br) (bB (bz (b>=a.2.1)) (Y (.inr (0,()))) (Y (.inl ()))) (Y (.inr (0,())))) (Y (.inr (0,())))) λd=>match d with
 |.inl _=>((aq a.2.2.1 b).bind λg=>(loop (σ:=cS) (ρ:=nX) (λ(c,_)=>(aq a.2.2.1 (aO b)).bind λh=>bB (bz (c<h)) ((aq a.2.2.2.1 c).bind λi=>bB (i==f) ((aq a.2.2.2.2.1 c).bind λj=>Y (.inr (.inr (j,())))) (Y (.inl (aO c,())))) (Y (.inr (.inl ())))) (g,())).bind λd=>match d with
 |.inl _=>(Y (0,()))
 |.inr e=>Y e)
 |.inr e=>Y e
def A5:(dh×Z×Z×bw)->bA gP:=λ(a,c,b,_)=>bE (α:=bw⊕gP) (bB (bz (c<0)==br) (bB (bz (c>=a.1)==br) (bB (bz (b<0)==br) (bB (bz (b>=a.2.1)) (Y (.inr (br,()))) (Y (.inl ()))) (Y (.inr (br,())))) (Y (.inr (br,())))) (Y (.inr (br,())))) λe=>match e with
 |.inl _=>((aq a.2.2.1 b).bind λg=>(loop (σ:=cS) (ρ:=mv) (λ(d,_)=>(aq a.2.2.1 (aO b)).bind λh=>bB (bz (d<h)) ((aq a.2.2.2.1 d).bind λi=>bB (i==c) (Y (.inr (.inr (bt,())))) (Y (.inl (aO d,())))) (Y (.inr (.inl ())))) (g,())).bind λe=>match e with
 |.inl _=>(Y (br,()))
 |.inr f=>Y f)
 |.inr f=>Y f
def AR:(bj×Z×Z×bw)->bA nB:=λ(G,f,N,_)=>(qC (N,3,())).bind λ(aU,_)=>(tp (G,f,f,aU,())).bind λ(F,_)=>(loop (σ:=(Z×dh×dh×dh×bw)) (ρ:=(dh×dh×bw)) (λ(h,r,w,n,_)=>bif bz (h<f) then(loop (σ:=(Z×dh×dh×dh×bw)) (ρ:=(dh×dh×dh×bw)) (λ(a,j,g,b,_)=>bif bz (a<f) then bE (α:=(dh×dh×dh×bw)) (bif a==h then(tv (1,())).bind λ(A,_)=>(loop (σ:=(Z×dh×dh×dh×nz×bw)) (ρ:=(dh×dh×dh×nz×bw)) (λ(d,m,i,l,k,_)=>bif bz (d<f) then bE (α:=(dh×dh×dh×nz×bw)) (bB (d !=a) ((tz (i,(if d>a then d else a),(if d<a then d else a),())).bind λ(B,_)=>(jJ (B,())).bind λ(C,_)=>(yk (C,())).bind λ(o,_)=>(cI (k.length+([o]).length)).bind λ_=>Y (m,i,l,(k++[o]),())) (Y (m,i,l,k,()))) λ(H,s,x,I,_)=>
 Y (.inl (aO d,H,s,x,I,())) else Y (.inr (m,i,l,k,()))) (0,j,g,b,[A],())).bind λ(J,t,c,K,_)=>(cI ((c.2.2.2.1).length+([a]).length)).bind λ_=>(A1 (K,())).bind λ(D,_)=>(ym (D,2,())).bind λ(p,_)=>(cI ((c.2.2.2.2.1).length+([p]).length)).bind λ_=>Y (J,t,(c.1,(c.2.1,(c.2.2.1,((c.2.2.2.1++[a]),((c.2.2.2.2.1++[p]),c.2.2.2.2.2))))),()) else(A5 (g,a,h,())).bind λ(E,_)=>bB E ((cI ((b.2.2.2.1).length+([a]).length)).bind λ_=>(tz (g,a,h,())).bind λ(q,_)=>(cI ((b.2.2.2.2.1).length+([q]).length)).bind λ_=>Y (j,g,(b.1,(b.2.1,(b.2.2.1,((b.2.2.2.1++[a]),((b.2.2.2.2.1++[q]),b.2.2.2.2.2))))),())) (Y (j,g,b,()))) λ(L,u,y,_)=>Y (.inl (aO a,L,u,y,())) else Y (.inr (j,g,b,()))) (0,r,w,n,())).bind λ(M,v,e,_)=>(cI ((e.2.2.1).length+([ar e.2.2.2.1]).length)).bind λ_=>
 Y (.inl (aO h,M,v,(e.1,(e.2.1,((e.2.2.1++[ar e.2.2.2.1]),e.2.2.2))),())) else Y (.inr (r,n,()))) (0,((0:Z),((0:Z),([],([],([],()))))),F,(f,(f,([0],(([]:bj),(([]:bj),()))))),())).bind λ(_,z,_)=>Y (z,())
def AS:nY->bA hD:=λ(m,j,_)=>(loop (σ:=nY) (ρ:=hD) (λ(a,c,_)=>bB (bz (c<j)) ((vF (m,az (700+c),())).bind λ(l,_)=>(eT bG l 1).bind λn=>(qC (az n,aO c,())).bind λ(i,_)=>((Y (0)).bind λg=>(gF i).bind λh=>(he g h a.length).map λ_=>(g,h)).bind λb=>(cI (([]:bj).length+((a.take b.2).drop b.1).length)).bind λ_=>(cI (([]++((a.take b.2).drop b.1)).length+([c]).length)).bind λ_=>((gF i).bind λe=>(Y a.length).bind λf=>(he e f a.length).map λ_=>(e,f)).bind λd=>(cI ((([]++((a.take b.2).drop b.1))++[c]).length+((a.take d.2).drop d.1).length)).bind λ_=>Y (.inl (((([]++((a.take b.2).drop b.1))++[c])++((a.take d.2).drop d.1)),aO c,()))) (Y (.inr (a,())))) ([],0,())).bind λ(k,_)=>Y (k,())
def Bf:nY->bA gP:=λ(b,c,_)=>(bif ar b !=c then Y (br,()) else((fS c c).bind λg=>(loop (σ:=(Z×gQ×bw)) (ρ:=mv) (λ(a,f,_)=>bif bz (a<c) then(bE (α:=(gQ×bw)⊕((Z×gQ×bw)⊕mv)) (bE (α:=(gQ×bw)⊕((gQ×bw)⊕((Z×gQ×bw)⊕mv))) ((aq b a).bind λl=>bB (bz (l<0)==br) ((aq b a).bind λm=>bB (bz (m>=c)==br) ((aq b a).bind λn=>rd f n λj=>bB j (Y (.inr (.inr (.inr (.inr (br,())))))) (Y (.inl (f,())))) (Y (.inr (.inr (.inr (.inr (br,()))))))) (Y (.inr (.inr (.inr (.inr (br,()))))))) λd=>match d with
 |.inl (h,_)=>((aq b a).bind λk=>wr h k bt λo=>Y (.inl (o,())))
 |.inr e=>Y e) λd=>match d with
 |.inl (i,_)=>(Y (.inl (aO a,i,())))
 |.inr e=>Y e) else Y (.inr (.inl ()))) (0,bJ g br,())).bind λd=>match d with
 |.inl _=>(Y (bt,()))
 |.inr e=>Y e))
def Bg:(dh×bj×bw)->bA cS:=λ(a,c,_)=>(rR (a,())).bind λ(b,_)=>(bB (b !=0) (Y (b,())) (bB (a.1 !=a.2.1) (Y (5,())) ((Bf (c,a.1,())).bind λ(aU,_)=>bB (!aU) (Y (90,())) (Y (0,())))))
def A4:nB->bA j8:=λ(b,_)=>(rR (b,())).bind λ(j,_)=>(bB (j !=0) (Y ([],())) ((loop (σ:=oP) (ρ:=j8) (λ(a,e,_)=>bB (bz (a<b.2.1)) ((aq b.2.2.1 a).bind λk=>(loop (σ:=oP) (ρ:=j8) (λ(c,d,_)=>(aq b.2.2.1 (aO a)).bind λl=>bB (bz (c<l)) ((aq b.2.2.2.1 c).bind λf=>(aq b.2.2.2.2.1 c).bind λg=>(cI (d.length+([(f,(a,(g,())))]).length)).bind λ_=>Y (.inl (aO c,(d++[(f,(a,(g,())))]),()))) (Y (.inr (d,())))) (k,e,())).bind λ(h,_)=>Y (.inl (aO a,h,()))) (Y (.inr (e,())))) (0,[],())).bind λ(i,_)=>Y (i,())))
def E1:z7->bA nB:=λ(c,g,h,_)=>(fS (az (c*g)) (az (c*g))).bind λy=>(loop (σ:=(Z×dh×dh×bj×bw)) (ρ:=(dh×dh×bj×bw)) (λ(e,o,m,k,_)=>bB (bz (e<ar h)) ((aq h e).bind λD=>(aq h e).bind λC=>wr k (az (az (D.2.1*c)+C.1)) (aO e) λE=>Y (.inl (aO e,o,m,E,()))) (Y (.inr (o,m,k,())))) (0,((0:Z),((0:Z),([],([],([],()))))),(c,(g,([0],(([]:bj),(([]:bj),()))))),bJ y (0:Z),())).bind λ(z,v,r,_)=>(loop (σ:=(Z×dh×dh×bj×bw)) (ρ:=(dh×dh×bw)) (λ(i,n,l,s,_)=>bif bz (i<g) then(loop (σ:=(Z×dh×dh×bj×bw)) (ρ:=(dh×dh×bj×bw)) (λ(d,j,a,f,_)=>bif bz (d<c) then bE (α:=(dh×dh×bj×bw)) (rd f (az (az (i*c)+d)) λp=>bif bz (p>0) then(cI ((a.2.2.2.1).length+([d]).length)).bind λ_=>(aq h (az (p-1))).bind λq=>
 (cI ((a.2.2.2.2.1).length+([q.2.2.1]).length)).bind λ_=>Y (j,(a.1,(a.2.1,(a.2.2.1,((a.2.2.2.1++[d]),((a.2.2.2.2.1++[q.2.2.1]),a.2.2.2.2.2))))),f,()) else Y (j,a,f,())) λ(A,w,t,_)=>Y (.inl (aO d,A,w,t,())) else Y (.inr (j,a,f,()))) (0,n,l,s,())).bind λ(B,b,u,_)=>(cI ((b.2.2.1).length+([ar b.2.2.2.1]).length)).bind λ_=>Y (.inl (aO i,B,(b.1,(b.2.1,((b.2.2.1++[ar b.2.2.2.1]),b.2.2.2))),u,())) else Y (.inr (n,l,()))) (0,z,v,r,())).bind λ(_,x,_)=>Y (x,())
def tA:nB->bA (dh×Z×bw):=λ(b,_)=>(rR (b,())).bind λ(aU,_)=>(bB (aU !=0) (Y (((0:Z),((0:Z),(([]:bj),(([]:bj),(([]:bj),()))))),aU,())) ((A4 (b,())).bind λ(d,_)=>(loop (σ:=(Z×dh×lB×bw)) (ρ:=(dh×lB×bw)) (λ(a,e,c,_)=>bB (bz (a<ar d)) (bE (α:=(dh×lB×bw)) ((aq d a).bind λl=>(aq d a).bind λk=>bB (bz (l.1>=k.2.1)) ((aq d a).bind λf=>(cI (c.length+([f]).length)).bind λ_=>Y (e,(c++[f]),())) (Y (e,c,()))) λ(j,g,_)=>Y (.inl (aO a,j,g,()))) (Y (.inr (e,c,())))) (0,((0:Z),((0:Z),([],([],([],()))))),[],())).bind λ(_,h,_)=>(E1 (b.1,b.2.1,h,())).bind λ(i,_)=>Y (i,0,())))
def tB:nB->bA ((bp bj×bw)×Z×bw):=λ(a,_)=>(rR (a,())).bind λ(g,_)=>(bB (g !=0) (Y ((([]:bp bj),()),g,())) (bB (a.1 !=a.2.1) (Y ((([]:bp bj),()),5,())) ((A8 (a.1,())).bind λ(l,_)=>(A4 (a,())).bind λ(aU,_)=>(loop (σ:=(Z×(bp bj×bw)×bp gQ×bw)) (ρ:=((bp bj×bw)×bp gQ×bw)) (λ(c,h,b,_)=>bB (bz (c<ar aU)) ((aq aU c).bind λo=>(bm b.length o.1).bind λd=>(aq aU c).bind λn=>((ba b d λi=>Y i).bind λj=>bm j.length n.2.1).bind λf=>(ba b d λe=>(ba e f λ_=>Y (e.set f bt)).map λp=>b.set d p).bind λq=>Y (.inl (aO c,h,q,()))) (Y (.inr (h,b,())))) (0,([],()),l,())).bind λ(_,m,_)=>(A6 (m,())).bind λ(k,_)=>Y (k,0,()))))
def E7:(dh×bj×bw)->bA ((bp bj×bw)×bw):=λ(a,b,_)=>(tA (a,())).bind λ(c,_,_)=>(tB (c,())).bind λ(d,_,_)=>(rS (d,b,())).bind λ(e,_,_)=>Y (e,())
def vJ:(dh×bj×Z×Z×bw)->bA gL:=λ(d,c,e,f,_)=>(aq c e).bind λa=>(aq c f).bind λb=>(tz (d,(if b>a then b else a),(if b<a then b else a),())).bind λ(g,_)=>(jJ (g,())).bind λ(h,_)=>Y (h,())
def Be:nA->bA gL:=λ(a,b,_)=>(jJ (a,())).bind λ(c,_)=>(jJ (b,())).bind λ(aU,_)=>(kc (c,aU,())).bind λ(d,_)=>Y (d,())
def E6:cS->bA gP:=λ(a,_)=>(bB ((a==0)==br) (Y ((a==9223372036854775808),())) (Y (bt,())))
def yo:j7->bA cS:=λ(a,b,_)=>(EZ (a,b,0,())).bind λ(c,_)=>Y (c,())
def Ou:hD->bA gP:=λ(a,_)=>(fS (ar a) (ar a)).bind λg=>(loop (σ:=(Z×gQ×bw)) (ρ:=mv) (λ(e,f,_)=>bif bz (e<ar a) then(bE (α:=(gQ×bw)⊕((Z×gQ×bw)⊕mv)) ((aq a e).bind λd=>bE (α:=(gQ×bw)⊕((gQ×bw)⊕((Z×gQ×bw)⊕mv))) (bB (bz (d<0)==br) (bB (bz (d>=ar a)==br) (rd f d λj=>bB j (Y (.inr (.inr (.inr (.inr (br,())))))) (Y (.inl (f,())))) (Y (.inr (.inr (.inr (.inr (br,()))))))) (Y (.inr (.inr (.inr (.inr (br,()))))))) λb=>match b with
 |.inl (i,_)=>(wr i d bt λk=>Y (.inl (k,())))
 |.inr c=>Y c) λb=>match b with
 |.inl (h,_)=>(Y (.inl (aO e,h,())))
 |.inr c=>Y c) else Y (.inr (.inl ()))) (0,bJ g br,())).bind λb=>match b with
 |.inl _=>(Y (bt,()))
 |.inr c=>Y c
def E8:(bj×Z×Z×bw)->bA gP:=λ(a,c,f,_)=>bE (α:=bw⊕gP) (bB ((ar a !=aO c)==br) ((aq a 0).bind λg=>bB ((g !=0)==br) ((aq a c).bind λh=>bB (h !=f) (Y (.inr (br,()))) (Y (.inl ()))) (Y (.inr (br,())))) (Y (.inr (br,())))) λd=>match d with
 |.inl _=>((loop (σ:=cS) (ρ:=mv) (λ(b,_)=>bB (bz (b<c)) ((aq a b).bind λi=>(aq a (aO b)).bind λj=>bB (bz (i>j)) (Y (.inr (.inr (br,())))) (Y (.inl (aO b,())))) (Y (.inr (.inl ())))) (0,())).bind λd=>match d with
 |.inl _=>(Y (bt,()))
 |.inr e=>Y e)
 |.inr e=>Y e
def Bd:nA->bA (sV×bw):=λ(b,a,_)=>(fS (az (b*a)) (az (b*a))).bind λc=>Y ((b,(a,(bJ c (br,((br,([],())),((0:Z),()))),()))),())
def vq:(dh×bj×bw)->bA Nc:=λ(j,m,_)=>(qF (j,m,())).bind λ(b,f,_)=>(bB (f !=0) (Y (((0:Z),((0:Z),(([]:nz),()))),f,())) (b.bind λp=>bB (bz (p.1>64)) (Y (((0:Z),((0:Z),(([]:nz),()))),6,())) (b.bind λq=>b.bind λr=>b.bind λs=>(loop (σ:=Dk) (ρ:=z6) (λ(c,h,e,_)=>bB (bz (c<s.1)) (b.bind λt=>(loop (σ:=Dk) (ρ:=z6) (λ(d,i,a,_)=>bB (bz (d<t.1)) ((vR (b,d,c,())).bind λ(n,_)=>(vu (n,())).bind λ(g,_)=>(cI ((a.2.2.1).length+([g]).length)).bind λ_=>Y (.inl (aO d,i,(a.1,(a.2.1,((a.2.2.1++[g]),a.2.2.2))),()))) (Y (.inr (i,a,())))) (0,h,e,())).bind λ(o,k,_)=>Y (.inl (aO c,o,k,()))) (Y (.inr (h,e,())))) (0,((0:Z),((0:Z),([],()))),(q.1,(r.1,(([]:nz),()))),())).bind λ(_,l,_)=>Y (l,0,()))))
def vL:(dh×bj×bw)->bA Nc:=λ(a,g,_)=>(Bg (a,g,())).bind λ(h,_)=>(bif h !=0 then Y (((0:Z),((0:Z),(([]:nz),()))),h,()) else bif bz (a.1>64) then Y (((0:Z),((0:Z),(([]:nz),()))),6,()) else(Bd (a.1,a.1,())).bind λ(n,_)=>(loop (σ:=Dk) (ρ:=z6) (λ(d,i,e,_)=>bB (bz (d<a.1)) ((loop (σ:=Dk) (ρ:=z6) (λ(c,j,b,_)=>bB (bz (c<a.1)) ((vJ (a,g,c,d,())).bind λ(m,_)=>(bm (b.2.2.1).length (az (az (d*a.1)+c))).bind λf=>((((ba b.2.2.1 f λ_=>Y ((b.2.2.1).set f m)).map λp=>(p,b.2.2.2)).map λq=>(b.2.1,q)).map λr=>(b.1,r)).bind λs=>Y (.inl (aO c,j,s,()))) (Y (.inr (j,b,())))) (0,i,e,())).bind λ(o,k,_)=>Y (.inl (aO d,o,k,()))) (Y (.inr (i,e,())))) (0,((0:Z),((0:Z),([],()))),n,())).bind λ(_,l,_)=>
 Y (l,0,()))
def tC:j7->bA gP:=λ(a,b,_)=>(ES (a,b,())).bind λ(c,_,_)=>Y (bz (c<0),())
def I1:z6->bA gL:=λ(d,f,_)=>(loop (σ:=(Z×e0×e0×bw)) (ρ:=j7) (λ(a,c,b,_)=>bB (bz (a<ar d.2.2.1)) (bE (α:=j7) ((aq d.2.2.1 a).bind λl=>(aq f.2.2.1 a).bind λm=>(tw (l,m,())).bind λ(j,_)=>(yk (j,())).bind λ(e,_)=>(tC (b,e,())).bind λ(i,_)=>bB i (Y (c,e,())) (Y (c,b,()))) λ(k,g,_)=>Y (.inl (aO a,k,g,()))) (Y (.inr (c,b,())))) (0,(br,((br,([],())),((0:Z),()))),(br,((br,([],())),((0:Z),()))),())).bind λ(_,h,_)=>Y (h,())
def IY:j9->bA gP:=λ(b,c,_)=>(bif ar b !=ar c then Y (br,()) else((loop (σ:=cS) (ρ:=mv) (λ(a,_)=>bB (bz (a<ar b)) ((aq b a).bind λf=>(aq c a).bind λg=>bB (f !=g) (Y (.inr (.inr (br,())))) (Y (.inl (aO a,())))) (Y (.inr (.inl ())))) (0,())).bind λd=>match d with
 |.inl _=>(Y (bt,()))
 |.inr e=>Y e))
def IW:lA->bA gP:=λ(a,b,_)=>(bB ((a.1==b.1)==bt) ((IY (a.2.1,b.2.1,())).bind λ(c,_)=>Y (c,())) (Y (br,())))
def IX:j7->bA gP:=λ(a,b,_)=>(bB ((a.1==b.1)==bt) (bB ((a.2.2.1==b.2.2.1)==bt) ((IW (a.2.1,b.2.1,())).bind λ(c,_)=>Y (c,())) (Y (br,()))) (Y (br,())))
def yg:j7->bA gP:=λ(a,b,_)=>(lE (a,())).bind λ(c,_)=>(lE (b,())).bind λ(aU,_)=>(IX (c,aU,())).bind λ(d,_)=>Y (d,())
def yf:(dh×bj×bj×bw)->bA (iu×bw):=λ(O,ex,fr,_)=>(tA (O,())).bind λ(aU,_,_)=>(tB (aU,())).bind λ(fn,_,_)=>(rS (fn,ex,())).bind λ(fp,_,_)=>(Bb (fp,())).bind λ(h,_,_)=>(loop (σ:=(Z×iu×bp gQ×bw)) (ρ:=kN) (λ(b,y,s,_)=>bif bz (b<ar h) then bE (α:=kN) (bE (α:=kN) (bE (α:=(bD×iu×bp gQ×bw)) (bB ((b==0)==br) ((vF (fr,az (900+b),())).bind λ(fl,_)=>(eT bG fl 7).bind λf3=>(jq f3 3).bind λf4=>Y (bz (f4>0),y,s,())) (Y (bt,y,s,()))) λ(fs,z,t,_)=>bif fs then(cI (z.length+([(b,(aO b,(([]:bj),((-1:Z),()))))]).length)).bind λ_=>(fS (ar h) (ar h)).bind λN=>(cI (t.length+([bJ N br]).length)).bind λ_=>Y ((z++[(b,(aO b,(([]:bj),((-1:Z),()))))]),(t++[bJ N br]),()) else
 Y (z,t,())) λ(m,co,_)=>(bm m.length (az (ar m-1))).bind λG=>(ba m G λB=>Y (m.set G (B.1,(aO b,B.2.2)))).bind λgs=>(loop (σ:=(Z×iu×bp gQ×bw)) (ρ:=kN) (λ(x,L,l,_)=>(aq h b).bind λf5=>bB (bz (x<ar f5)) ((bm l.length (az (ar m-1))).bind λw=>(aq h b).bind λf6=>(aq f6 x).bind λf7=>((ba l w λT=>Y T).bind λU=>bm U.length f7).bind λH=>(ba l w λC=>(ba C H λ_=>Y (C.set H bt)).map λgt=>l.set w gt).bind λhc=>Y (.inl (aO x,L,hc,()))) (Y (.inr (L,l,())))) (0,gs,co,())).bind λ(ek,cs,_)=>Y (ek,cs,())) λ(el,cv,_)=>Y (.inl (aO b,el,cv,())) else Y (.inr (y,s,()))) (0,[],[],())).bind λ(em,c1,_)=>(loop (σ:=(Z×iu×bp gQ×bw)) (ρ:=(iu×bw)) (λ(a,n,c2,_)=>bif bz (a<ar n) then(bm n.length a).bind λd0=>
 (ba n d0 λV=>Y V.1).bind λf8=>(loop (σ:=(Z×iu×bp gQ×bw)) (ρ:=kN) (λ(c,d,f,_)=>bif bz (c<ar h) then bE (α:=kN) ((bm f.length a).bind λI=>((ba f I λad=>Y ad).bind λam=>bm am.length c).bind λd1=>(ba f I λan=>ba an d1 λap=>Y ap).bind λf9=>bif !f9 then Y (d,f,()) else(bm d.length a).bind λJ=>(ba d J λav=>Y av.2.2.1).bind λfT=>(cI (fT.length+([c]).length)).bind λ_=>(bm d.length a).bind λp=>bif bL J p&&bt then(ba d p λa0=>Y a0.2.2.1).bind λf0=>(ba d p λr=>Y (d.set p (r.1,(r.2.1,((f0++[c]),r.2.2.2))))).bind λi=>bE (α:=kN) (bE (α:=(bD×iu×bp gQ×bw)) ((bm i.length a).bind λd2=>(ba i d2 λa3=>Y a3.2.1).bind λgc=>bif bz (c>=gc)==bt then(bm i.length a).bind λd3=>(ba i d3 λa4=>Y a4.2.2.2.1).bind λge=>
 Y (bz (ge<0),i,f,()) else Y (br,i,f,())) λ(ft,M,D,_)=>bB ft ((loop (σ:=(Z×iu×bp gQ×bw)) (ρ:=kN) (λ(j,e,u,_)=>bB (bz (j<ar e)) (bE (α:=kN) (bE (α:=(bD×iu×bp gQ×bw)) ((bm e.length j).bind λd4=>(ba e d4 λbl=>Y bl.1).bind λgf=>bB (bz (c>=gf)==bt) ((bm e.length j).bind λd5=>(ba e d5 λbs=>Y bs.2.1).bind λgi=>Y (bz (c<gi),e,u,())) (Y (br,e,u,()))) λ(fz,q,E,_)=>bB fz ((bm q.length a).bind λK=>(ba q K λo=>Y (q.set K (o.1,(o.2.1,(o.2.2.1,(j,o.2.2.2.2)))))).bind λhi=>Y (hi,E,())) (Y (q,E,()))) λ(eq,dg,_)=>Y (.inl (aO j,eq,dg,()))) (Y (.inr (e,u,())))) (aO a,M,D,())).bind λ(d6,bx,_)=>Y (d6,bx,())) (Y (M,D,()))) λ(g,k,_)=>(bm g.length a).bind λdl=>
 (ba g dl λP=>Y P.2.1).bind λf1=>bB (bz (c>=f1)) ((bm g.length a).bind λds=>(ba g ds λQ=>Y Q.2.2.2.1).bind λf2=>(bm k.length f2).bind λv=>((ba k v λR=>Y R).bind λS=>bm S.length c).bind λF=>(ba k v λA=>(ba A F λ_=>Y (A.set F bt)).map λgl=>k.set v gl).bind λgo=>Y (g,go,())) (Y (g,k,())) else bv) λ(d7,ce,_)=>Y (.inl (aO c,d7,ce,())) else Y (.inr (d,f,()))) (f8,n,c2,())).bind λ(d8,ci,_)=>Y (.inl (aO a,d8,ci,())) else Y (.inr (n,()))) (0,em,c1,())).bind λ(d9,_)=>Y (d9,())
def AO:nY->bA cS:=λ(b,e,_)=>(loop (σ:=cS) (ρ:=nX) (λ(a,_)=>bB (bz (a<ar b)) ((aq b a).bind λf=>bB (e==f) (Y (.inr (.inr (a,())))) (Y (.inl (aO a,())))) (Y (.inr (.inl ())))) (0,())).bind λc=>match c with
 |.inl _=>(Y ((-1:Z),()))
 |.inr d=>Y d
def vK:(dh×bj×iu×bw)->bA cS:=λ(c,d,b,_)=>(Bg (c,d,())).bind λ(aU,_)=>(bif aU !=0 then Y (aU,()) else(E7 (c,d,())).bind λ(h,_)=>(yn (h,b,())).bind λ(e,_)=>bif e !=0 then Y (e,()) else((loop (σ:=cS) (ρ:=nX) (λ(a,_)=>bB (bz (a<ar b)) ((aq b a).bind λi=>bB (bz (ar i.2.2.1>64)) (Y (.inr (.inr (6,())))) (Y (.inl (aO a,())))) (Y (.inr (.inl ())))) (0,())).bind λf=>match f with
 |.inl _=>(Y (0,()))
 |.inr g=>Y g))
abbrev aM:Type:=ak7
abbrev j6:Type:=(aM×bw)
abbrev Na:Type:=(bD×j6)
abbrev eG:Type:=ev
abbrev cP:Type:=(bD×(Na×eG))
abbrev fg:Type:=(bp cP)
abbrev fP:Type:=(bp fg)
abbrev eI:Type:=(aM×(Z×(fP×bw)))
abbrev c3:Type:=(aM×(aM×(aM×(aM×(aM×(aM×eG))))))
abbrev u9:Type:=ak5
abbrev df:Type:=(aM×(Z×(u9×(fP×bw))))
abbrev hC:Type:=(aM×(aM×(aM×(bp aM×bw))))
abbrev hf:Type:=(Z×(Z×(fg×bw)))
abbrev nw:Type:=et
abbrev pA:Type:=(Z×(Z×eG))
abbrev jH:Type:=eu
abbrev eO:Type:=(aM×j6)
abbrev nV:Type:=(eI×hC×eI×hC×bw)
abbrev rC:Type:=(Z×eI×hC×eI×hC×bw)
abbrev nW:Type:=(eI×eI×bw)
abbrev xB:Type:=(ej⊕(nw⊕jH))
abbrev qp:Type:=(Z×(Z×(aM×eG)))
abbrev rD:Type:=(Z×c3×aM×c3×aM×aM×bw)
abbrev z5:Type:=(eG⊕(bw⊕(eG⊕(bw⊕jH))))
abbrev ny:Type:=(Z×(Z×(aM×eO)))
abbrev xC:Type:=(Z×c3×aM×c3×bw)
def EK:(aM×Z×Z×bD×bw)->bA (ny×aM×bp qp×bw):=λ(b,g,e,f,_)=>(qC (g,6,())).bind λ(a,_)=>(tp (b,a,a,e,())).bind λ(i,_)=>bE (α:=(ny×ny×bw)) (bB f ((AR (b,a,e,())).bind λ(j,_)=>Y (((0:Z),((0:Z),([],([],([],()))))),j,())) (Y (((0:Z),((0:Z),([],([],([],()))))),i,()))) λ(_,c,_)=>(AS (b,a,())).bind λ(d,_)=>(yf (c,d,b,())).bind λ(h,_)=>Y (c,d,h,())
def Eg:(qp×bp (bA df)×bw)->bA (aM×Z×bw):=λ(a,j,_)=>(loop (σ:=(Z×aM×bw)) (ρ:=j6) (λ(h,m,_)=>bB (bz (h<ar j)) ((aq j h).bind λi=>i.bind λt=>(loop (σ:=(Z×aM×bw)) (ρ:=j6) (λ(e,d,_)=>bB (bz (e<t.2.1)) (bE (α:=j6) (i.bind λu=>(aq u.2.2.1 e).bind λr=>bB r (i.bind λs=>(aq s.1 e).bind λn=>(cI (d.length+([n]).length)).bind λ_=>Y ((d++[n]),())) (Y (d,()))) λ(o,_)=>Y (.inl (aO e,o,()))) (Y (.inr (d,())))) (0,m,())).bind λ(p,_)=>Y (.inl (aO h,p,()))) (Y (.inr (m,())))) (0,[],())).bind λ(q,_)=>(loop (σ:=(Z×aM×bw)) (ρ:=j6) (λ(b,f,_)=>bB (bz (b<a.2.1)) ((cI (f.length+([b]).length)).bind λ_=>Y (.inl (aO b,(f++[b]),()))) (Y (.inr (f,())))) (a.1,q,())).bind λ(g,_)=>
 ((gF (az (a.2.1-a.1))).bind λk=>(Y ((a.2.2.1).length)).bind λl=>(he k l (a.2.2.1).length).map λ_=>(k,l)).bind λc=>(cI (g.length+(((a.2.2.1).take c.2).drop c.1).length)).bind λ_=>Y ((g++(((a.2.2.1).take c.2).drop c.1)),ar g,())
def D9:(df×bA df×bw)->bA (df×bw):=λ(H,c,_)=>c.bind λr=>(fS (ar r.1) (ar r.1)).bind λD=>c.bind λs=>(loop (σ:=(Z×df×aM×bw)) (ρ:=(df×aM×bw)) (λ(f,g,i,_)=>bB (bz (f<ar s.1)) (bE (α:=(df×aM×bw)) ((aq s.1 f).bind λa0=>c.bind λN=>(aq N.2.2.1 f).bind λO=>bB O ((AO (g.1,a0,())).bind λ(E,_)=>wr i f E λa3=>Y (g,a3,())) (Y (g,i,()))) λ(I,t,_)=>Y (.inl (aO f,I,t,()))) (Y (.inr (g,i,())))) (0,H,bJ D (0:Z),())).bind λ(J,l,_)=>(loop (σ:=(Z×df×aM×bw)) (ρ:=(df×bw)) (λ(d,q,m,_)=>bif bz (d<ar l) then(loop (σ:=(Z×df×aM×bw)) (ρ:=(df×aM×bw)) (λ(e,k,h,_)=>bif bz (e<ar m) then bE (α:=(df×aM×bw)) (bE (α:=(bD×df×aM×bw)) (c.bind λP=>(aq P.2.2.1 d).bind λQ=>bif Q==bt then c.bind λR=>
 (aq R.2.2.1 e).bind λS=>Y (S,k,h,()) else Y (br,k,h,())) λ(G,a,b,_)=>bB G (rd b d λT=>(bm (a.2.2.2.1).length T).bind λj=>rd b e λU=>rd b d λV=>(bm (a.2.2.2.1).length V).bind λo=>rd b e λad=>((ba a.2.2.2.1 o λw=>Y w).bind λx=>bm x.length ad).bind λC=>(ba a.2.2.2.1 o λy=>ba y C λz=>Y z).bind λam=>c.bind λan=>(aq an.2.2.2.1 d).bind λap=>(aq ap e).bind λav=>(Aq (am,av,())).bind λ(F,_)=>((ba a.2.2.2.1 j λA=>Y A).bind λB=>bm B.length U).bind λp=>(((((ba a.2.2.2.1 j λn=>(ba n p λ_=>Y (n.set p F)).map λa4=>(a.2.2.2.1).set j a4).map λbl=>(bl,a.2.2.2.2)).map λbs=>(a.2.2.1,bs)).map λbx=>(a.2.1,bx)).map λce=>(a.1,ce)).bind λci=>Y (ci,b,())) (Y (a,b,()))) λ(K,u,_)=>Y (.inl (aO e,K,u,())) else
 Y (.inr (k,h,()))) (0,q,m,())).bind λ(L,v,_)=>Y (.inl (aO d,L,v,())) else Y (.inr (q,()))) (0,J,l,())).bind λ(M,_)=>Y (M,())
def D7:(bA (Z×((bp aM×bw)×(bp (bA (bp (Z×cP)×X))×bw)))×qp×bp (bA df)×bw)->bA (df×Z×bw):=λ(w,k,j,_)=>(Eg (k,j,())).bind λ(aU,B,_)=>(bif bz (ar aU>64) then bv else(fS (ar aU) (ar aU)).bind λy=>(fS (ar aU) (ar aU)).bind λz=>(loop (σ:=(Z×df×bw)) (ρ:=(df×bw)) (λ(g,b,_)=>bB (bz (g<ar aU)) ((fS (ar aU) (ar aU)).bind λx=>(bm (b.2.2.1).length g).bind λo=>((((ba b.2.2.1 o λ_=>Y ((b.2.2.1).set o bt)).map λL=>(L,b.2.2.2)).map λM=>(b.2.1,M)).map λN=>(b.1,N)).bind λc=>(bm (c.2.2.2.1).length g).bind λp=>(((((ba c.2.2.2.1 p λ_=>Y ((c.2.2.2.1).set p (bJ x (br,((br,(([]:ak7),())),((0:Z),())))))).map λO=>(O,c.2.2.2.2)).map λP=>(c.2.2.1,P)).map λQ=>(c.2.1,Q)).map λR=>(c.1,R)).bind λS=>Y (.inl (aO g,S,()))) (Y (.inr (b,())))) (0,(aU,(B,(bJ y br,(bJ z [],())))),())).bind λ(D,_)=>
 (loop (σ:=(Z×df×bw)) (ρ:=(df×bw)) (λ(d,r,_)=>bif bz (d<ar aU) then(loop (σ:=(Z×df×bw)) (ρ:=(df×bw)) (λ(e,f,_)=>bif bz (e<ar aU) then bE (α:=(df×bw)) (rd f.1 d λh=>rd f.1 e λi=>bE (α:=(bD×df×bw)) (bB (bz ((if i<h then i else h)>=k.1)==bt) (Y (bz ((if i<h then i else h)<k.2.1),f,())) (Y (br,f,()))) λ(C,a,_)=>bB C ((bm (a.2.2.2.1).length d).bind λl=>rd a.1 d λI=>rd a.1 e λJ=>(vR (w,I,J,())).bind λ(A,_)=>((ba a.2.2.2.1 l λt=>Y t).bind λu=>bm u.length e).bind λq=>(((((ba a.2.2.2.1 l λn=>(ba n q λ_=>Y (n.set q A)).map λT=>(a.2.2.2.1).set l T).map λU=>(U,a.2.2.2.2)).map λV=>(a.2.2.1,V)).map λad=>(a.2.1,ad)).map λam=>(a.1,am)).bind λan=>Y (an,())) (Y (a,()))) λ(E,_)=>Y (.inl (aO e,E,())) else
 Y (.inr (f,()))) (0,r,())).bind λ(F,_)=>Y (.inl (aO d,F,())) else Y (.inr (r,()))) (0,D,())).bind λ(G,_)=>(loop (σ:=(Z×df×bw)) (ρ:=(df×bw)) (λ(m,s,_)=>bB (bz (m<ar j)) ((aq j m).bind λK=>(D9 (s,K,())).bind λ(v,_)=>Y (.inl (aO m,v,()))) (Y (.inr (s,())))) (0,G,())).bind λ(H,_)=>Y (H,0,()))
def IB:(cP×bw)->bA ((bD×(Na×(Z×jH)))×bw):=λ(a,_)=>(te (a.2.1,())).bind λ(b,_)=>Y ((a.2.1.1,(b,(a.2.2.1,(br,())))),())
def DN:(cP×Z×bw)->bA eG:=λ(b,c,_)=>(vu (b,())).bind λ(a,_)=>(bB a.1 (Y (9221120237041090560,())) ((pF (a,())).bind λ(aU,_)=>bB (aU==0) (Y (0,())) ((IB (a,())).bind λ(d,_)=>(Au (d,c,())).bind λ(e,_)=>Y (e,()))))
def tm:(bA df×Z×Z×bw)->bA eG:=λ(d,a,b,_)=>d.bind λe=>(aq e.2.2.2.1 a).bind λf=>(aq f b).bind λg=>(DN (g,0,())).bind λ(c,_)=>Y (c,())
def DO:j6->bA jH:=λ(b,_)=>(loop (σ:=eG) (ρ:=(bw⊕jH)) (λ(a,_)=>bB (bz (a<ar b)) ((aq b a).bind λe=>(DM (e,())).bind λ(aU,_)=>bB (aU==3) (Y (.inr (.inr (bt,())))) (Y (.inl (aO a,())))) (Y (.inr (.inl ())))) (0,())).bind λc=>match c with
 |.inl _=>(Y (br,()))
 |.inr d=>Y d
def x0:eG->bA eG:=λ(a,_)=>(DO ([a],())).bind λ(b,_)=>(bB b (Y (9221120237041090560,())) (Y (Dn bG a 9223372036854775808,())))
def AK:(bA df×Z×bw)->bA (cP×Z×Z×bw):=λ(h,i,_)=>(pE (0,())).bind λ(t,_)=>h.bind λz=>(loop (σ:=(Z×Z×cP×cP×bw)) (ρ:=((Z×cP×cP×bw)⊕(cP×Z×Z×bw))) (λ(b,c,d,a,_)=>bif bz (c<ar z.1) then(bE (α:=(Z×cP×cP×bw)⊕((Z×Z×cP×cP×bw)⊕((Z×cP×cP×bw)⊕(cP×Z×Z×bw)))) (h.bind λA=>(aq A.2.2.1 c).bind λy=>bif !y then Y (.inl (b,d,a,())) else(tm (h,c,i,())).bind λ(g,_)=>(pG (g,())).bind λ(n,_)=>bif !n then Y (.inr (.inr (.inr (a,b,233,())))) else bif c==i then Y (.inl (b,d,a,())) else(x0 (g,())).bind λ(o,_)=>(ld (o,())).bind λ(p,_)=>(xX (p,a,())).bind λ(q,_,_)=>bE (α:=(bD×cP×cP×bw)) (bB (bz (q>0)==br) (Y (bz (b<0),d,a,())) (Y (bt,d,a,()))) λ(w,j,k,_)=>
 bB w ((x0 (g,())).bind λ(r,_)=>(ld (r,())).bind λ(s,_)=>Y (.inl (c,j,s,()))) (Y (.inl (b,j,k,())))) λe=>match e with
 |.inl (u,x,l,_)=>(Y (.inl (u,aO c,x,l,())))
 |.inr f=>Y f) else Y (.inr (.inl (b,d,a,())))) ((-1:Z),0,(br,((br,(([]:ak7),())),((0:Z),()))),t,())).bind λe=>match e with
 |.inl (v,_,m,_)=>(Y (m,v,0,()))
 |.inr f=>Y f
def AH:(bA df×Z×bw)->bA (cP×bw):=λ(d,a,_)=>(tm (d,a,a,())).bind λ(b,_)=>(x0 (b,())).bind λ(aU,_)=>(ld (aU,())).bind λ(c,_)=>Y (c,())
def x8:(cP×cP×bw)->bA jH:=λ(a,b,_)=>(pE (64,())).bind λ(c,_)=>(m0 (c,a,())).bind λ(aU,_)=>(pE (41,())).bind λ(d,_)=>(m0 (d,b,())).bind λ(e,_)=>(xX (aU,e,())).bind λ(f,_,_)=>Y (bz (f>=0),())
def Ea:(bA df×bw)->bA (aM×Z×bw):=λ(b,_)=>b.bind λw=>(loop (σ:=eG) (ρ:=(bw⊕(aM×Z×bw))) (λ(a,_)=>bif bz (a<w.2.1) then(bE (α:=bw⊕(eG⊕(bw⊕(aM×Z×bw)))) (b.bind λx=>(aq x.2.2.1 a).bind λy=>bif !y then Y (.inl ()) else(AK (b,a,())).bind λ(f,e,i,_)=>bif i !=0 then Y (.inr (.inr (.inr ([],i,())))) else((AH (b,a,())).bind λ(g,_)=>bE (α:=(cP×cP×bw)⊕(bw⊕(eG⊕(bw⊕(aM×Z×bw))))) (bE (α:=(bD×cP×cP×bw)) ((pF (f,())).bind λ(o,_)=>bB ((o==0)==br) ((x8 (g,f,())).bind λ(p,_)=>Y (p,f,g,())) (Y (bt,f,g,()))) λ(v,l,m,_)=>bB v (Y (.inr (.inr (.inr (.inr ([a],0,())))))) (Y (.inl (l,m,())))) λc=>match c with
 |.inl (h,n,_)=>(b.bind λz=>bB (bz (e>=z.2.1)) (Y (.inl ())) ((AK (b,e,())).bind λ(j,_,k,_)=>bB (k !=0) (Y (.inr (.inr (.inr ([],k,()))))) ((m0 (n,j,())).bind λ(q,_)=>(m0 (h,h,())).bind λ(r,_)=>(x8 (q,r,())).bind λ(s,_)=>bB s (Y (.inr (.inr (.inr ([a],0,()))))) ((AH (b,e,())).bind λ(t,_)=>(x8 (t,j,())).bind λ(u,_)=>bB u (Y (.inr (.inr (.inr ([e],0,()))))) (Y (.inr (.inr (.inr ([a,e],0,())))))))))
 |.inr d=>Y d)) λc=>match c with
 |.inl _=>(Y (.inl (aO a,())))
 |.inr d=>Y d) else Y (.inr (.inl ()))) (0,())).bind λc=>match c with
 |.inl _=>(Y ([],0,()))
 |.inr d=>Y d
def AL:(bA df×bw)->bA j6:=λ(c,_)=>c.bind λf=>(loop (σ:=(Z×aM×bw)) (ρ:=j6) (λ(a,b,_)=>bB (bz (a<ar f.1)) (bE (α:=j6) (c.bind λg=>(aq g.2.2.1 a).bind λh=>bB h ((cI (b.length+([a]).length)).bind λ_=>Y ((b++[a]),())) (Y (b,()))) λ(d,_)=>Y (.inl (aO a,d,()))) (Y (.inr (b,())))) (0,[],())).bind λ(e,_)=>Y (e,())
def pH:(fg×cP×bw)->bA (fg×bw):=λ(c,e,_)=>(loop (σ:=(Z×fg×bw)) (ρ:=(fg×bw)) (λ(b,a,_)=>bB (bz (b<ar c)) ((aq c b).bind λg=>(m0 (g,e,())).bind λ(d,_)=>(cI (a.length+([d]).length)).bind λ_=>Y (.inl (aO b,(a++[d]),()))) (Y (.inr (a,())))) (0,[],())).bind λ(f,_)=>Y (f,())
def qB:(df×aM×fg×fg×bw)->bA (df×bw):=λ(w,b,u,v,_)=>(loop (σ:=(Z×df×bw)) (ρ:=(df×bw)) (λ(c,i,_)=>bif bz (c<ar b) then(aq b c).bind λk=>(loop (σ:=(Z×df×bw)) (ρ:=(df×bw)) (λ(d,a,_)=>bif bz (d<ar b) then(aq b d).bind λj=>(bm (a.2.2.2.1).length k).bind λe=>(bm (a.2.2.2.1).length k).bind λg=>((ba a.2.2.2.1 g λl=>Y l).bind λm=>bm m.length j).bind λr=>(ba a.2.2.2.1 g λn=>ba n r λo=>Y o).bind λz=>(aq u c).bind λA=>(aq v d).bind λB=>(m0 (A,B,())).bind λ(s,_)=>(vv (z,s,())).bind λ(t,_)=>((ba a.2.2.2.1 e λp=>Y p).bind λq=>bm q.length j).bind λh=>(((((ba a.2.2.2.1 e λf=>(ba f h λ_=>Y (f.set h t)).map λC=>(a.2.2.2.1).set e C).map λD=>(D,a.2.2.2.2)).map λE=>(a.2.2.1,E)).map λF=>(a.2.1,F)).map λG=>(a.1,G)).bind λH=>
 Y (.inl (aO d,H,())) else Y (.inr (a,()))) (0,i,())).bind λ(x,_)=>Y (.inl (aO c,x,())) else Y (.inr (i,()))) (0,w,())).bind λ(y,_)=>Y (y,())
def Ef:eG->bA (cP×bw):=λ(_,_)=>(pE (0,())).bind λ(a,_)=>Y (a,())
def IE:(bA df×aM×bw×cP×bw)->bA (eO×fg×Z×bw):=λ(q,e,_,p,_)=>(loop (σ:=(Z×eO×eO×fg×bw)) (ρ:=((eO×eO×fg×bw)⊕(eO×fg×Z×bw))) (λ(d,g,a,c,_)=>bB (bz (d<ar e)) ((aq e d).bind λh=>(Ef (h,())).bind λ(n,_)=>(td (n,p,0,())).bind λ(b,_)=>(pG (b,())).bind λ(o,_)=>bB (!o) (Y (.inr (.inr (a,[],233,())))) (q.bind λr=>(aq r.1 h).bind λi=>(cI ((a.1).length+([i]).length)).bind λ_=>(cI ((a.2.1).length+([b]).length)).bind λ_=>(ld (b,())).bind λ(f,_)=>(cI (c.length+([f]).length)).bind λ_=>Y (.inl (aO d,g,((a.1++[i]),((a.2.1++[b]),a.2.2)),(c++[f]),())))) (Y (.inr (.inl (g,a,c,()))))) (0,([],([],())),([],([],())),[],())).bind λl=>match l with
 |.inl (_,j,k,_)=>(Y (j,k,0,()))
 |.inr m=>Y m
def Ee:(Z×bA (bA df)×ak1×bw)->bA (cP×bw):=λ(a,b,c,_)=>b.bind λd=>d.bind λe=>(aq e.2.2.2.1 a).bind λf=>c.bind λg=>(aq f g).bind λh=>Y (h,())
def IF:(bA df×aM×(bA (bA df)×ak1×bw)×cP×bw)->bA (eO×fg×Z×bw):=λ(r,e,f,q,_)=>(loop (σ:=(Z×eO×eO×fg×bw)) (ρ:=((eO×eO×fg×bw)⊕(eO×fg×Z×bw))) (λ(d,h,a,c,_)=>bB (bz (d<ar e)) ((aq e d).bind λi=>(Ee (i,f.1,f.2.1,())).bind λ(o,_)=>(td (o,q,0,())).bind λ(b,_)=>(pG (b,())).bind λ(p,_)=>bB (!p) (Y (.inr (.inr (a,[],233,())))) (r.bind λs=>(aq s.1 i).bind λj=>(cI ((a.1).length+([j]).length)).bind λ_=>(cI ((a.2.1).length+([b]).length)).bind λ_=>(ld (b,())).bind λ(g,_)=>(cI (c.length+([g]).length)).bind λ_=>Y (.inl (aO d,h,((a.1++[j]),((a.2.1++[b]),a.2.2)),(c++[g]),())))) (Y (.inr (.inl (h,a,c,()))))) (0,([],([],())),([],([],())),[],())).bind λm=>match m with
 |.inl (_,k,l,_)=>(Y (k,l,0,()))
 |.inr n=>Y n
def vz:(fg×bw)->bA (cP×bw):=λ(a,_)=>(aq a 0).bind λd=>(aq a 2).bind λe=>(m0 (d,e,())).bind λ(aU,_)=>(aq a 1).bind λf=>(aq a 1).bind λg=>(m0 (f,g,())).bind λ(b,_)=>(vv (aU,b,())).bind λ(c,_)=>Y (c,())
def vA:(Z×Z×bA aM×bA eO×bw)->bA eG:=λ(c,d,a,b,_)=>a.bind λi=>b.bind λj=>(aq j.1 c).bind λk=>(aq i k).bind λl=>a.bind λm=>b.bind λf=>(aq f.1 d).bind λg=>(aq m g).bind λh=>(vr (l,h,())).bind λ(e,_)=>Y (e,())
def IT:(aM×Z×Z×(bA aM×bA eO×bw)×bw)->bA j6:=λ(i,e,h,f,_)=>(loop (σ:=(Z×aM×bw)) (ρ:=j6) (λ(d,g,_)=>bif bz (d<h) then(loop (σ:=(Z×aM×bw)) (ρ:=j6) (λ(a,b,_)=>bE (α:=j6⊕((Z×aM×bw)⊕j6)) (bB (bz (a>e)==bt) (rd b a λo=>rd b (az (a-1)) λp=>(vA (o,p,f.1,f.2.1,())).bind λ(n,_)=>bB (bz (n<0)) (Y (.inl (b,()))) (Y (.inr (.inr (b,()))))) (Y (.inr (.inr (b,()))))) λl=>match l with
 |.inl (c,_)=>(rd c (az (a-1)) λq=>rd c a λr=>wr c a q λs=>wr s (az (a-1)) r λt=>Y (.inl (az (a-1),t,())))
 |.inr m=>Y m) (d,g,())).bind λ(j,_)=>Y (.inl (aO d,j,())) else Y (.inr (g,()))) (aO e,i,())).bind λ(k,_)=>Y (k,())
def EE:(aM×Z×Z×Z×(bA aM×bA eO×bw)×bw)->bA j6:=λ(f,d,e,h,c,_)=>(loop (σ:=(Z×Z×Z×bD×bD×aM×bw)) (ρ:=j6) (λ(a,b,_,_,_,g,_)=>bB (bz (az (b-a)<=12)) ((IT (g,a,b,(c.1,c.2.1,()),())).bind λ(i,_)=>Y (.inr (i,()))) bv) (d,e,h,bt,bt,f,())).bind Y
def EB:(aM×(bA aM×bA eO×bw)×bw)->bA j6:=λ(a,b,_)=>(Ek (aR (ar a),())).bind λ(d,_)=>(EE (a,0,ar a,d,(b.1,b.2.1,()),())).bind λ(c,_)=>Y (c,())
def Ei:(bA (bA (Z×((bp aM×bw)×(bp (bA (bp (Z×cP)×X))×bw)))×(aM×(aM×(aM×(bp eO×eG)))))×aM×bw)->bA (c3×bw):=λ(c,i,_)=>(fS (ar i) (ar i)).bind λP=>c.bind λT=>c.bind λU=>c.bind λad=>c.bind λH=>(loop (σ:=xC) (ρ:=(c3×aM×c3×bw)) (λ(f,A,s,d,_)=>bB (bz (f<ar H.2.1)) ((aq H.2.1 f).bind λB=>wr s B f λam=>(aq i B).bind λC=>(cI ((d.1).length+([C]).length)).bind λ_=>Y (.inl (aO f,A,am,((d.1++[C]),d.2),()))) (Y (.inr (A,s,d,())))) (0,([],([],([],([],([],([],((0:Z),()))))))),bJ P (0:Z),(([]:aM),(T.2.2.1,(U.2.2.2.1,([0],(([]:aM),(([]:aM),(ad.2.2.2.2.2.1,()))))))),())).bind λ(Q,M,J,_)=>c.bind λD=>(loop (σ:=xC) (ρ:=(c3×c3×bw)) (λ(j,x,N,q,_)=>bif bz (j<ar D.2.2.2.2.1) then(aq D.2.2.2.2.1 j).bind λl=>(fS (ar l.1) (ar l.1)).bind λw=>
 (loop (σ:=(Z×c3×aM×c3×eO×aM×bw)) (ρ:=(c3×aM×c3×eO×aM×bw)) (λ(e,y,t,r,o,m,_)=>bB (bz (e<ar (bJ w (0:Z)))) (wr m e e λan=>Y (.inl (aO e,y,t,r,o,an,()))) (Y (.inr (y,t,r,o,m,())))) (0,x,N,q,l,bJ w (0:Z),())).bind λ(R,u,K,p,I,_)=>(EB (I,(Y u,Y p,()),())).bind λ(v,_)=>(loop (σ:=(Z×c3×aM×c3×eO×aM×bw)) (ρ:=(c3×aM×c3×bw)) (λ(k,z,h,a,g,n,_)=>bif bz (k<ar v) then rd n k λE=>(aq g.1 E).bind λV=>rd h V λF=>(cI ((a.2.2.2.2.1).length+([F]).length)).bind λ_=>(aq g.2.1 E).bind λG=>(cI ((a.2.2.2.2.2.1).length+([G]).length)).bind λ_=>Y (.inl (aO k,z,h,(a.1,(a.2.1,(a.2.2.1,(a.2.2.2.1,((a.2.2.2.2.1++[F]),((a.2.2.2.2.2.1++[G]),a.2.2.2.2.2.2)))))),g,n,())) else
 Y (.inr (z,h,a,()))) (0,R,u,K,p,v,())).bind λ(S,O,b,_)=>(cI ((b.2.2.2.1).length+([ar b.2.2.2.2.1]).length)).bind λ_=>Y (.inl (aO j,S,O,(b.1,(b.2.1,(b.2.2.1,((b.2.2.2.1++[ar b.2.2.2.2.1]),b.2.2.2.2)))),())) else Y (.inr (x,q,()))) (0,Q,M,J,())).bind λ(_,L,_)=>Y (L,())
def D5:(qp×bw)->bA jH:=λ(a,_)=>Y (bz (ar a.2.2.1>64),())
def Ey:(bp qp×bw×bw)->bA eG:=λ(b,_,_)=>(loop (σ:=eG) (ρ:=(bw⊕eG)) (λ(a,_)=>bB (bz (a<ar b)) ((aq b a).bind λf=>(D5 (f,())).bind λ(e,_)=>bB e (Y (.inr (.inr (a,())))) (Y (.inl (aO a,())))) (Y (.inr (.inl ())))) (0,())).bind λc=>match c with
 |.inl _=>(Y ((-1:Z),()))
 |.inr d=>Y d
def Ew:(bp qp×bw×bw)->bA jH:=λ(b,_,_)=>(Ey (b,(),())).bind λ(a,_)=>Y (bz (a>=0),())
def rT:(aM×Z×bw)->bA eG:=λ(b,c,_)=>(loop (σ:=eG) (ρ:=(bw⊕eG)) (λ(a,_)=>bB (bz (a<ar b)) ((aq b a).bind λf=>bB (f==c) (Y (.inr (.inr (a,())))) (Y (.inl (aO a,())))) (Y (.inr (.inl ())))) (0,())).bind λd=>match d with
 |.inl _=>(Y ((-1:Z),()))
 |.inr e=>Y e
def Fa:(ny×aM×bp qp×Z×bp eI×bw)->bA (eI×bw):=λ(an,ci,c,b,y,_)=>(loop (σ:=(Z×eI×eI×bw)) (ρ:=nW) (λ(g,B,m,_)=>bB (bz (g<b)) (bE (α:=nW) ((aq c g).bind λgc=>bB (gc.2.2.2.1==b) ((aq y g).bind λF=>(aq y g).bind λfr=>((Y (0)).bind λL=>(gF fr.2.1).bind λM=>(he L M (F.1).length).map λ_=>(L,M)).bind λs=>(cI ((m.1).length+(((F.1).take s.2).drop s.1).length)).bind λ_=>Y (B,((m.1++(((F.1).take s.2).drop s.1)),m.2),())) (Y (B,m,()))) λ(dg,ek,_)=>Y (.inl (aO g,dg,ek,()))) (Y (.inr (B,m,())))) (0,([],((0:Z),([],()))),([],((0:Z),([],()))),())).bind λ(dl,el,_)=>(aq c b).bind λft=>(loop (σ:=(Z×eI×eI×bw)) (ρ:=nW) (λ(q,Q,t,_)=>(aq c b).bind λfz=>bif bz (q<fz.2.1) then(cI ((t.1).length+([q]).length)).bind λ_=>Y (.inl (aO q,Q,((t.1++[q]),t.2),())) else
 Y (.inr (Q,t,()))) (ft.1,dl,el,())).bind λ(ds,D,_)=>(loop (σ:=(Z×eI×eI×bw)) (ρ:=nW) (λ(o,z,j,_)=>(aq c b).bind λfT=>bB (bz (o<ar fT.2.2.1)) (bE (α:=nW) ((aq c b).bind λf0=>(aq f0.2.2.1 o).bind λf1=>(aq c b).bind λf2=>bB (bz (f1>=f2.2.1)) ((aq c b).bind λf3=>(aq f3.2.2.1 o).bind λad=>(cI ((j.1).length+([ad]).length)).bind λ_=>Y (z,((j.1++[ad]),j.2),())) (Y (z,j,()))) λ(d0,em,_)=>Y (.inl (aO o,d0,em,()))) (Y (.inr (z,j,())))) (0,ds,(D.1,(ar D.1,D.2.2)),())).bind λ(d1,k,_)=>(loop (σ:=(Z×eI×eI×bw)) (ρ:=nW) (λ(h,R,e,_)=>bif bz (h<ar k.1) then(fS (ar k.1) (ar k.1)).bind λN=>(cI ((e.2.2.1).length+([bJ N (br,((br,(([]:ak7),())),((0:Z),())))]).length)).bind λ_=>(loop (σ:=(Z×eI×eI×bw)) (ρ:=nW) (λ(i,A,l,_)=>bif bz (i<ar k.1) then
 bE (α:=nW) (rd l.1 h λu=>rd l.1 i λv=>bE (α:=(bD×eI×eI×bw)) ((aq c b).bind λf4=>bB (bz ((if v<u then v else u)>=f4.1)==bt) ((aq c b).bind λf5=>Y (bz ((if v<u then v else u)<f5.2.1),A,l,())) (Y (br,A,l,()))) λ(d2,S,d,_)=>bB d2 ((bm (d.2.2.1).length h).bind λw=>rd d.1 h λf6=>rd d.1 i λf7=>(vJ (an,ci,f6,f7,())).bind λ(cs,_)=>((ba d.2.2.1 w λbs=>Y bs).bind λbx=>bm bx.length i).bind λK=>((((ba d.2.2.1 w λH=>(ba H K λ_=>Y (H.set K cs)).map λhi=>(d.2.2.1).set w hi).map λhr=>(hr,d.2.2.2)).map λhs=>(d.2.1,hs)).map λhv=>(d.1,hv)).bind λhw=>Y (S,hw,())) (Y (S,d,()))) λ(d3,eq,_)=>Y (.inl (aO i,d3,eq,())) else Y (.inr (A,l,()))) (0,R,(e.1,(e.2.1,((e.2.2.1++[bJ N (br,((br,(([]:ak7),())),((0:Z),())))]),e.2.2.2))),())).bind λ(d4,ex,_)=>
 Y (.inl (aO h,d4,ex,())) else Y (.inr (R,e,()))) (0,d1,k,())).bind λ(d5,fl,_)=>(loop (σ:=(Z×eI×eI×bw)) (ρ:=nW) (λ(n,C,E,_)=>bif bz (n<b) then bE (α:=nW) ((aq c n).bind λf8=>bif f8.2.2.2.1 !=b then Y (C,E,()) else(aq y n).bind λf9=>(loop (σ:=(Z×eI×eI×eI×bw)) (ρ:=nW) (λ(p,T,V,am,_)=>bif bz (p<ar am.1) then(loop (σ:=(Z×eI×eI×eI×bw)) (ρ:=(eI×eI×eI×bw)) (λ(r,U,a,f,_)=>bif bz (r<ar f.1) then(aq f.1 p).bind λge=>(rT (a.1,ge,())).bind λ(O,_)=>(aq f.1 r).bind λgf=>(rT (a.1,gf,())).bind λ(P,_)=>(bm (a.2.2.1).length O).bind λx=>(bm (a.2.2.1).length O).bind λI=>((ba a.2.2.1 I λap=>Y ap).bind λav=>bm av.length P).bind λce=>(ba a.2.2.1 I λa0=>ba a0 ce λa3=>Y a3).bind λfn=>(aq f.2.2.1 p).bind λfp=>(aq fp r).bind λfs=>
 (ts (fn,fs,())).bind λ(co,_)=>((ba a.2.2.1 x λa4=>Y a4).bind λbl=>bm bl.length P).bind λJ=>((((ba a.2.2.1 x λG=>(ba G J λ_=>Y (G.set J co)).map λgl=>(a.2.2.1).set x gl).map λgo=>(go,a.2.2.2)).map λgs=>(a.2.1,gs)).map λgt=>(a.1,gt)).bind λhc=>Y (.inl (aO r,U,hc,f,())) else Y (.inr (U,a,f,()))) (0,T,V,am,())).bind λ(cv,d6,gi,_)=>Y (.inl (aO p,cv,d6,gi,())) else Y (.inr (T,V,()))) (0,C,E,f9,())).bind λ(c1,d7,_)=>Y (c1,d7,())) λ(c2,d8,_)=>Y (.inl (aO n,c2,d8,())) else Y (.inr (C,E,()))) (0,d5,fl,())).bind λ(_,d9,_)=>Y (d9,())
def vI:(cP×bw)->bA eG:=λ(a,_)=>(ym (a,0,())).bind λ(b,_)=>Y (b,())
def Bj:(eI×Z×bw)->bA (fg×bD×bw):=λ(e,f,_)=>(loop (σ:=(Z×fg×bw)) (ρ:=((fg×bw)⊕(fg×bD×bw))) (λ(a,b,_)=>bB (bz (a<ar e.1)) ((aq e.2.2.1 a).bind λl=>(aq l f).bind λm=>(vI (m,())).bind λ(c,_)=>(pI (c,())).bind λ(i,_)=>bB (!i) (Y (.inr (.inr ([],br,())))) ((jJ (c,())).bind λ(j,_)=>(yk (j,())).bind λ(d,_)=>(cI (b.length+([d]).length)).bind λ_=>Y (.inl (aO a,(b++[d]),())))) (Y (.inr (.inl (b,()))))) (0,[],())).bind λg=>match g with
 |.inl (k,_)=>(Y (k,bt,()))
 |.inr h=>Y h
def yq:(fg×Z×bw)->bA (cP×Z×bw):=λ(e,l,_)=>(loop (σ:=(Z×Z×cP×cP×bw)) (ρ:=(Z×cP×cP×bw)) (λ(d,a,c,b,_)=>bB (bz (a<ar e)) (bE (α:=(Z×cP×cP×bw)) (bE (α:=(bD×cP×cP×bw)) (bB ((a !=l)==bt) (bB (bz (d<0)==br) ((aq e a).bind λq=>(tC (b,q,())).bind λ(m,_)=>Y (m,c,b,())) (Y (bt,c,b,()))) (Y (br,c,b,()))) λ(o,f,i,_)=>bB o ((aq e a).bind λp=>Y (a,f,p,())) (Y (d,f,i,()))) λ(g,n,j,_)=>Y (.inl (g,aO a,n,j,()))) (Y (.inr (d,c,b,())))) ((-1:Z),0,(br,((br,(([]:ak7),())),((0:Z),()))),(br,((br,(([]:ak7),())),((0:Z),()))),())).bind λ(h,_,k,_)=>Y (k,h,())
def yr:(cP×cP×bw)->bA jH:=λ(a,b,_)=>(tv (64,())).bind λ(c,_)=>(kc (c,a,())).bind λ(aU,_)=>(tv (41,())).bind λ(d,_)=>(kc (d,b,())).bind λ(e,_)=>(tC (aU,e,())).bind λ(f,_)=>Y ((!f),())
def Bi:(eI×bw)->bA (aM×bD×bw):=λ(f,_)=>(loop (σ:=eG) (ρ:=(bw⊕(aM×bD×bw))) (λ(a,_)=>bif bz (a<f.2.1) then(bE (α:=bw⊕(eG⊕(bw⊕(aM×bD×bw)))) ((Bj (f,a,())).bind λ(g,l,_)=>bif !l then Y (.inr (.inr (.inr ([],br,())))) else((yq (g,a,())).bind λ(e,b,_)=>bE (α:=(cP×bw)⊕(bw⊕(eG⊕(bw⊕(aM×bD×bw))))) (bE (α:=(bD×cP×bw)) ((A0 (e,())).bind λ(m,_)=>bB ((m==0)==br) ((aq g a).bind λu=>(yr (u,e,())).bind λ(n,_)=>Y (n,e,())) (Y (bt,e,()))) λ(t,k,_)=>bB t (Y (.inr (.inr (.inr (.inr ([a],bt,())))))) (Y (.inl (k,())))) λc=>match c with
 |.inl (h,_)=>(bB (bz (b>=f.2.1)) (Y (.inl ())) ((Bj (f,b,())).bind λ(i,o,_)=>bB (!o) (Y (.inr (.inr (.inr ([],br,()))))) ((yq (i,b,())).bind λ(j,_,_)=>(aq g a).bind λv=>(kc (v,j,())).bind λ(p,_)=>(kc (h,h,())).bind λ(q,_)=>(yr (p,q,())).bind λ(r,_)=>bB r (Y (.inr (.inr (.inr ([a],bt,()))))) ((aq i b).bind λw=>(yr (w,j,())).bind λ(s,_)=>bB s (Y (.inr (.inr (.inr ([b],bt,()))))) (Y (.inr (.inr (.inr ([a,b],bt,())))))))))
 |.inr d=>Y d)) λc=>match c with
 |.inl _=>(Y (.inl (aO a,())))
 |.inr d=>Y d) else Y (.inr (.inl ()))) (0,())).bind λc=>match c with
 |.inl _=>(Y ([],bt,()))
 |.inr d=>Y d
def Fc:(eI×aM×bw)->bA (eI×bw):=λ(b,g,_)=>(loop (σ:=(Z×eI×eI×bw)) (ρ:=nW) (λ(a,h,d,_)=>bif bz (a<ar b.1) then bE (α:=nW) ((rT (g,a,())).bind λ(o,_)=>bif bz (o>=0) then Y (h,d,()) else(aq b.1 a).bind λm=>(cI ((d.1).length+([m]).length)).bind λ_=>(loop (σ:=(Z×eI×eI×fg×bw)) (ρ:=(eI×eI×fg×bw)) (λ(e,i,j,f,_)=>bB (bz (e<ar b.1)) (bE (α:=(eI×eI×fg×bw)) ((rT (g,e,())).bind λ(n,_)=>bB (bz (n<0)) ((aq b.2.2.1 a).bind λt=>(aq t e).bind λl=>(cI (f.length+([l]).length)).bind λ_=>Y (i,j,(f++[l]),())) (Y (i,j,f,()))) λ(q,u,p,_)=>Y (.inl (aO e,q,u,p,()))) (Y (.inr (i,j,f,())))) (0,h,((d.1++[m]),d.2),[],())).bind λ(r,c,k,_)=>(cI ((c.2.2.1).length+([k]).length)).bind λ_=>
 Y (r,(c.1,(c.2.1,((c.2.2.1++[k]),c.2.2.2))),())) λ(s,v,_)=>Y (.inl (aO a,s,v,())) else Y (.inr (h,d,()))) (0,([],((0:Z),([],()))),(([]:aM),(az (b.2.1-ar g),(([]:fP),()))),())).bind λ(_,w,_)=>Y (w,())
def vM:j6->bA (cP×bw):=λ(a,_)=>(aq a 0).bind λd=>(aq a 2).bind λe=>(Be (d,e,())).bind λ(aU,_)=>(aq a 1).bind λf=>(aq a 1).bind λg=>(Be (f,g,())).bind λ(b,_)=>(tw (aU,b,())).bind λ(c,_)=>Y (c,())
def vP:(hC×eI×aM×Z×bw)->bA j6:=λ(a,f,b,d,_)=>(aq f.2.2.1 d).bind λC=>(aq b 0).bind λD=>(aq C D).bind λc=>(bif ar b==1 then(aq a.2.1 0).bind λE=>(E6 (E,())).bind λ(v,_)=>bB v (Y ([0],())) ((aq a.2.1 0).bind λw=>(jJ (w,())).bind λ(h,_)=>(yo (c,h,())).bind λ(i,_)=>Y ([i],())) else(aq f.2.2.1 d).bind λx=>(aq b 1).bind λy=>(aq x y).bind λg=>(aq a.2.1 0).bind λz=>(jJ (z,())).bind λ(j,_)=>(aq a.2.1 1).bind λA=>(jJ (A,())).bind λ(e,_)=>(aq a.2.1 2).bind λB=>(jJ (B,())).bind λ(k,_)=>(kc (c,k,())).bind λ(l,_)=>(kc (g,e,())).bind λ(m,_)=>(tw (l,m,())).bind λ(n,_)=>(kc (g,j,())).bind λ(o,_)=>(kc (c,e,())).bind λ(p,_)=>(tw (o,p,())).bind λ(q,_)=>
 (vM (a.2.1,())).bind λ(r,_)=>(yo (n,r,())).bind λ(s,_)=>(vM (a.2.1,())).bind λ(t,_)=>(yo (q,t,())).bind λ(u,_)=>Y ([s,u],()))
def vO:(hC×Z×Z×bw)->bA (cP×bw):=λ(a,b,c,_)=>(aq a.2.2.2.1 0).bind λD=>(aq D b).bind λE=>(jJ (E,())).bind λ(h,_)=>(aq a.2.2.2.1 0).bind λF=>(aq F c).bind λG=>(jJ (G,())).bind λ(i,_)=>(aq a.2.1 0).bind λw=>(jJ (w,())).bind λ(j,_)=>(kc (h,j,())).bind λ(k,_)=>(kc (k,i,())).bind λ(d,_)=>bE (α:=(cP×cP×bw)) (bif ar a.1==2 then(aq a.2.2.2.1 1).bind λx=>(aq x b).bind λy=>(jJ (y,())).bind λ(e,_)=>(aq a.2.2.2.1 1).bind λz=>(aq z c).bind λA=>(jJ (A,())).bind λ(f,_)=>(aq a.2.1 1).bind λB=>(jJ (B,())).bind λ(g,_)=>(aq a.2.1 2).bind λC=>(jJ (C,())).bind λ(l,_)=>(kc (h,g,())).bind λ(m,_)=>(kc (m,f,())).bind λ(n,_)=>(ts (d,n,())).bind λ(o,_)=>(kc (e,g,())).bind λ(p,_)=>
 (kc (p,i,())).bind λ(q,_)=>(ts (o,q,())).bind λ(r,_)=>(kc (e,l,())).bind λ(s,_)=>(kc (s,f,())).bind λ(t,_)=>(ts (r,t,())).bind λ(u,_)=>Y ((br,((br,(([]:ak7),())),((0:Z),()))),u,()) else Y ((br,((br,(([]:ak7),())),((0:Z),()))),d,())) λ(_,v,_)=>Y (v,())
def yp:(eI×aM×bw)->bA (eI×hC×bD×bw):=λ(e,a,_)=>(Fc (e,a,())).bind λ(F,_)=>(loop (σ:=rC) (ρ:=nV) (λ(p,K,L,T,d,_)=>bB (bz (p<ar a)) ((aq a p).bind λfz=>(aq e.1 fz).bind λQ=>(cI ((d.1).length+([Q]).length)).bind λ_=>(cI ((d.2.2.2.1).length+([([]:aM)]).length)).bind λ_=>Y (.inl (aO p,K,L,T,((d.1++[Q]),(d.2.1,(d.2.2.1,((d.2.2.2.1++[([]:aM)]),d.2.2.2.2)))),()))) (Y (.inr (K,L,T,d,())))) (0,([],((0:Z),([],()))),([],([],([],([],())))),F,(([]:aM),(([]:aM),(F.1,(([]:bp aM),())))),())).bind λ(G,H,S,m,_)=>(aq a 0).bind λd8=>(aq e.2.2.1 d8).bind λd9=>(aq a 0).bind λek=>(aq d9 ek).bind λel=>(vI (el,())).bind λ(r,_)=>bE (α:=nV) (bif ar a==2 then(aq a 1).bind λem=>(aq e.2.2.1 em).bind λeq=>(aq a 0).bind λex=>(aq eq ex).bind λfl=>(vI (fl,())).bind λ(D,_)=>
 (aq a 1).bind λfn=>(aq e.2.2.1 fn).bind λfp=>(aq a 1).bind λfr=>(aq fp fr).bind λfs=>(vI (fs,())).bind λ(E,_)=>(cI (([r]).length+([D,E]).length)).bind λ_=>Y (G,H,S,(m.1,(([r]++[D,E]),m.2.2)),()) else Y (G,H,S,(m.1,([r],m.2.2)),())) λ(dl,ds,f2,bs,_)=>(loop (σ:=rC) (ρ:=(nV⊕(eI×hC×bD×bw))) (λ(k,t,u,v,n,_)=>bif bz (k<ar e.1) then(bE (α:=nV⊕(rC⊕(nV⊕(eI×hC×bD×bw)))) ((rT (a,k,())).bind λ(co,_)=>bif bz (co>=0) then Y (.inl (t,u,v,n,())) else((vP (n,e,a,k,())).bind λ(s,_)=>(loop (σ:=rC) (ρ:=(nV⊕(nV⊕(rC⊕(nV⊕(eI×hC×bD×bw)))))) (λ(f,I,J,w,b,_)=>bif bz (f<ar s) then(aq s f).bind λft=>(pI (ft,())).bind λ(cs,_)=>bif !cs then Y (.inr (.inr (.inr (.inr (.inr (w,b,br,())))))) else(bm (b.2.2.2.1).length f).bind λz=>
 (aq s f).bind λR=>(ba b.2.2.2.1 z λU=>Y U).bind λd6=>(cI (d6.length+([R]).length)).bind λ_=>(bm (b.2.2.2.1).length f).bind λl=>bB (bL z l&&bt) ((ba b.2.2.2.1 l λV=>Y V).bind λd7=>(((((ba b.2.2.2.1 l λ_=>Y ((b.2.2.2.1).set l (d7++[R]))).map λge=>(ge,b.2.2.2.2)).map λgf=>(b.2.2.1,gf)).map λgi=>(b.2.1,gi)).map λgl=>(b.1,gl)).bind λgo=>Y (.inl (aO f,I,J,w,go,()))) bv else Y (.inr (.inl (I,J,w,b,())))) (0,t,u,v,n,())).bind λi=>match i with
 |.inl (d0,d1,f3,bx,_)=>(Y (.inl (d0,d1,f3,bx,())))
 |.inr j=>Y j)) λi=>match i with
 |.inl (d2,d3,f4,ce,_)=>(Y (.inl (aO k,d2,d3,f4,ce,())))
 |.inr j=>Y j) else Y (.inr (.inl (t,u,v,n,())))) (0,dl,ds,f2,bs,())).bind λi=>match i with
 |.inl (d4,d5,f5,ci,_)=>((loop (σ:=rC) (ρ:=nV) (λ(g,M,N,x,C,_)=>bif bz (g<ar x.1) then(loop (σ:=rC) (ρ:=nV) (λ(h,O,P,c,q,_)=>bB (bz (h<ar c.1)) ((bm (c.2.2.1).length g).bind λo=>(bm (c.2.2.1).length g).bind λA=>((ba c.2.2.1 A λad=>Y ad).bind λam=>bm am.length h).bind λa3=>(ba c.2.2.1 A λan=>ba an a3 λap=>Y ap).bind λfT=>(vO (q,g,h,())).bind λ(cv,_)=>(tw (fT,cv,())).bind λ(c1,_)=>((ba c.2.2.1 o λav=>Y av).bind λa0=>bm a0.length h).bind λB=>((((ba c.2.2.1 o λy=>(ba y B λ_=>Y (y.set B c1)).map λf6=>(c.2.2.1).set o f6).map λf7=>(f7,c.2.2.2)).map λf8=>(c.2.1,f8)).map λf9=>(c.1,f9)).bind λgc=>Y (.inl (aO h,O,P,gc,q,()))) (Y (.inr (O,P,c,q,())))) (0,M,N,x,C,())).bind λ(c2,dg,f0,a4,_)=>
 Y (.inl (aO g,c2,dg,f0,a4,())) else Y (.inr (M,N,x,C,()))) (0,d4,d5,f5,ci,())).bind λ(_,_,f1,bl,_)=>Y (f1,bl,bt,()))
 |.inr j=>Y j
def Fb:(aM×bp hC×Z×bw)->bA (c3×bw):=λ(x,c,a0,_)=>(fS (ar x) (ar x)).bind λdl=>(loop (σ:=xC) (ρ:=(c3×aM×c3×bw)) (λ(g,U,G,E,_)=>bif bz (g<ar c) then(loop (σ:=xC) (ρ:=(c3×aM×c3×bw)) (λ(p,V,H,k,_)=>(aq c g).bind λfl=>bB (bz (p<ar fl.1)) ((aq c g).bind λfn=>(aq fn.1 p).bind λfp=>wr H fp (ar k.1) λft=>(aq c g).bind λfr=>(aq fr.1 p).bind λfs=>(aq x fs).bind λan=>(cI ((k.1).length+([an]).length)).bind λ_=>Y (.inl (aO p,V,ft,((k.1++[an]),k.2),()))) (Y (.inr (V,H,k,())))) (0,U,G,E,())).bind λ(d5,c1,i,_)=>(aq c g).bind λap=>(cI ((i.2.1).length+([ar ap.1]).length)).bind λ_=>(aq c g).bind λav=>(cI ((i.2.2.1).length+(av.2.1).length)).bind λ_=>Y (.inl (aO g,d5,c1,(i.1,((i.2.1++[ar ap.1]),((i.2.2.1++av.2.1),i.2.2.2))),())) else
 Y (.inr (U,G,E,()))) (0,([],([],([],([],([],([],((0:Z),()))))))),bJ dl (0:Z),(([]:aM),(([]:aM),(([]:aM),([0],(([]:aM),(([]:aM),(a0,()))))))),())).bind λ(d6,c2,bx,_)=>(loop (σ:=xC) (ρ:=(c3×c3×bw)) (λ(h,R,ce,B,_)=>bif bz (h<ar c) then(loop (σ:=xC) (ρ:=(c3×aM×c3×bw)) (λ(w,S,F,C,_)=>(aq c h).bind λd8=>bif bz (w<ar d8.1) then(loop (σ:=rD) (ρ:=(c3×aM×c3×aM×aM×bw)) (λ(n,T,u,D,I,ad,_)=>(aq c h).bind λd9=>bif bz (n<ar d9.2.2.1) then(aq c h).bind λek=>(aq ek.2.2.1 n).bind λel=>rd u el λs=>(loop (σ:=rD) (ρ:=rD) (λ(j,y,v,t,l,z,_)=>bE (α:=(c3×aM×c3×aM×aM×bw)⊕(rD⊕rD)) (bif bz (j<ar l)==bt then rd l j λem=>bif bz (em<s) then Y (.inl (y,v,t,l,z,())) else
 Y (.inr (.inr (j,y,v,t,l,z,()))) else Y (.inr (.inr (j,y,v,t,l,z,())))) λds=>match ds with
 |.inl (d1,ci,a3,dg,d7,_)=>(Y (.inl (aO j,d1,ci,a3,dg,d7,())))
 |.inr d0=>Y d0) (0,T,u,D,I,ad,())).bind λ(m,d2,co,a4,b,d,_)=>((Y (0)).bind λJ=>(gF m).bind λK=>(he J K b.length).bind λ_=>(oi b.length).map λ_=>(J,K)).bind λe=>(cI (([]:aM).length+((b.take e.2).drop e.1).length)).bind λ_=>(cI (([]++((b.take e.2).drop e.1)).length+([s]).length)).bind λ_=>((gF m).bind λL=>(Y b.length).bind λM=>(he L M b.length).bind λ_=>(oi b.length).map λ_=>(L,M)).bind λq=>(cI ((([]++((b.take e.2).drop e.1))++[s]).length+((b.take q.2).drop q.1).length)).bind λ_=>((Y (0)).bind λN=>(gF m).bind λO=>(he N O d.length).bind λ_=>(oi d.length).map λ_=>(N,O)).bind λf=>(cI (([]:aM).length+((d.take f.2).drop f.1).length)).bind λ_=>(aq c h).bind λeq=>(aq eq.2.2.2.1 w).bind λex=>(aq ex n).bind λA=>
 (cI (([]++((d.take f.2).drop f.1)).length+([A]).length)).bind λ_=>((gF m).bind λP=>(Y d.length).bind λQ=>(he P Q d.length).bind λ_=>(oi d.length).map λ_=>(P,Q)).bind λr=>(cI ((([]++((d.take f.2).drop f.1))++[A]).length+((d.take r.2).drop r.1).length)).bind λ_=>Y (.inl (aO n,d2,co,a4,((([]++((b.take e.2).drop e.1))++[s])++((b.take q.2).drop q.1)),((([]++((d.take f.2).drop f.1))++[A])++((d.take r.2).drop r.1)),())) else Y (.inr (T,u,D,I,ad,()))) (0,S,F,C,[],[],())).bind λ(d3,cs,a,o,am,_)=>(cI ((a.2.2.2.2.1).length+o.length)).bind λ_=>(cI ((a.2.2.2.2.2.1).length+am.length)).bind λ_=>(cI ((a.2.2.2.1).length+([ar (a.2.2.2.2.1++o)]).length)).bind λ_=>Y (.inl (aO w,d3,cs,(a.1,(a.2.1,(a.2.2.1,((a.2.2.2.1++[ar (a.2.2.2.2.1++o)]),((a.2.2.2.2.1++o),((a.2.2.2.2.2.1++am),a.2.2.2.2.2.2)))))),())) else
 Y (.inr (S,F,C,()))) (0,R,ce,B,())).bind λ(d4,cv,bl,_)=>Y (.inl (aO h,d4,cv,bl,())) else Y (.inr (R,B,()))) (0,d6,c2,bx,())).bind λ(_,bs,_)=>Y (bs,())
def nF:(ny×aM×bp qp×bw)->bA (c3×Z×bw):=λ(n,g,d,_)=>(vK (n,g,d,())).bind λ(A,_)=>(bif A !=0 then Y ((([]:aM),(([]:aM),(([]:aM),(([]:aM),(([]:aM),(([]:aM),((0:Z),()))))))),A,()) else((loop (σ:=(Z×bD×Z×c3×bp eI×bp hC×bw)) (ρ:=((Z×c3×bp hC×bw)⊕(c3×Z×bw))) (λ(o,F,c,B,p,u,_)=>bif bz (c<ar d) then(Fa (n,g,d,c,p,())).bind λ(w,_)=>bif bz (ar w.1>64) then Y (.inr (.inr ((([]:aM),(([]:aM),(([]:aM),(([]:aM),(([]:aM),(([]:aM),((0:Z),()))))))),6,()))) else(loop (σ:=(bD×c3×bp eI×bp hC×eI×bw)) (ρ:=(bD×c3×bp eI×bp hC×eI×bw)) (λ(h,k,e,i,a,_)=>bif !h then(Bi (a,())).bind λ(x,K,_)=>bE (α:=(bD×c3×bp eI×bp hC×eI×bw)) (bif !K then Y (bt,k,e,i,a,()) else
 Y (h,k,e,i,a,())) λ(r,l,f,j,b,_)=>bB (ar x==0) (Y (.inr (r,l,f,j,b,()))) ((yp (b,x,())).bind λ(y,z,L,_)=>bE (α:=(bD×c3×bp eI×bp hC×eI×eI×hC×bw)) (bB (!L) (Y (bt,l,f,j,b,y,z,())) (Y (r,l,f,j,b,y,z,()))) λ(E,N,D,v,_,P,t,_)=>(cI (v.length+([t]).length)).bind λ_=>Y (.inl (E,N,D,(v++[t]),P,()))) else Y (.inr (h,k,e,i,a,()))) (F,B,p,u,w,())).bind λ(s,O,q,G,m,_)=>bB s (Y (.inr (.inr ((([]:aM),(([]:aM),(([]:aM),(([]:aM),(([]:aM),(([]:aM),((0:Z),()))))))),233,())))) ((cI (q.length+([m]).length)).bind λ_=>Y (.inl (az (o+m.2.1),s,aO c,O,(q++[m]),G,()))) else
 Y (.inr (.inl (o,B,u,())))) (0,br,0,([],([],([],([],([],([],((0:Z),()))))))),[],[],())).bind λI=>match I with
 |.inl (C,_,H,_)=>((Fb (g,H,C,())).bind λ(M,_)=>Y (M,0,()))
 |.inr J=>Y J))
def EH:(c3×c3×bw)->bA jH:=λ(a,b,_)=>(rN (a.1,b.1,())).bind λ(c,_)=>(bB (c==bt) ((rN (a.2.1,b.2.1,())).bind λ(aU,_)=>bB (aU==bt) ((AU (a.2.2.1,b.2.2.1,())).bind λ(d,_)=>bB (d==bt) ((rN (a.2.2.2.1,b.2.2.2.1,())).bind λ(e,_)=>bB (e==bt) ((rN (a.2.2.2.2.1,b.2.2.2.2.1,())).bind λ(f,_)=>bB (f==bt) ((AU (a.2.2.2.2.2.1,b.2.2.2.2.2.1,())).bind λ(g,_)=>bB (g==bt) (Y ((a.2.2.2.2.2.2.1==b.2.2.2.2.2.2.1),())) (Y (br,()))) (Y (br,()))) (Y (br,()))) (Y (br,()))) (Y (br,()))) (Y (br,())))
def Ow:bw->bA (ny×bw):=λ_=>Y ((2,(2,([0,1,1],([1],([4607182418800017408],()))))),())
def II:j6->bA jH:=λ(a,_)=>(fS (ar a) (ar a)).bind λg=>(loop (σ:=(Z×u9×bw)) (ρ:=(bw⊕jH)) (λ(e,f,_)=>bif bz (e<ar a) then(bE (α:=(u9×bw)⊕((Z×u9×bw)⊕(bw⊕jH))) ((aq a e).bind λd=>bE (α:=(u9×bw)⊕((u9×bw)⊕((Z×u9×bw)⊕(bw⊕jH)))) (bB (bz (d<0)==br) (bB (bz (d>=ar a)==br) (rd f d λj=>bB j (Y (.inr (.inr (.inr (.inr (br,())))))) (Y (.inl (f,())))) (Y (.inr (.inr (.inr (.inr (br,()))))))) (Y (.inr (.inr (.inr (.inr (br,()))))))) λb=>match b with
 |.inl (i,_)=>(wr i d bt λk=>Y (.inl (k,())))
 |.inr c=>Y c) λb=>match b with
 |.inl (h,_)=>(Y (.inl (aO e,h,())))
 |.inr c=>Y c) else Y (.inr (.inl ()))) (0,bJ g br,())).bind λb=>match b with
 |.inl _=>(Y (bt,()))
 |.inr c=>Y c
def AM:(c3×bw)->bA (aM×bD×bw):=λ(b,_)=>(loop (σ:=(Z×Z×Z×aM×bw)) (ρ:=((Z×Z×aM×bw)⊕(aM×bD×bw))) (λ(a,h,g,e,_)=>bif bz (g<ar b.2.1) then(bE (α:=(Z×Z×aM×bw)⊕((Z×Z×Z×aM×bw)⊕((Z×Z×aM×bw)⊕(aM×bD×bw)))) ((aq b.2.1 g).bind λf=>bE (α:=j6⊕((Z×Z×aM×bw)⊕((Z×Z×Z×aM×bw)⊕((Z×Z×aM×bw)⊕(aM×bD×bw))))) (bE (α:=(bD×aM×bw)) (bB ((f !=1)==bt) (bB ((f !=2)==br) (Y (bz (a>=ar b.1),e,())) (Y (bt,e,()))) (Y (bz (a>=ar b.1),e,()))) λ(q,o,_)=>bB q (Y (.inr (.inr (.inr (.inr ([],br,())))))) (Y (.inl (o,())))) λc=>match c with
 |.inl (i,_)=>((cI (i.length+([a]).length)).bind λ_=>Y (.inl (az (a+f),az (h+az (az (2*f)-1)),(i++[a]),())))
 |.inr d=>Y d) λc=>match c with
 |.inl (k,m,p,_)=>(Y (.inl (k,m,aO g,p,())))
 |.inr d=>Y d) else Y (.inr (.inl (a,h,e,())))) (0,0,0,[],())).bind λc=>match c with
 |.inl (l,n,j,_)=>(bB ((l==ar b.1)==bt) (Y (j,(n==ar b.2.2.1),())) (Y (j,br,())))
 |.inr d=>Y d
def D8:(c3×aM×bw)->bA jH:=λ(a,j,_)=>bE (α:=bw⊕jH) ((aq a.2.2.2.1 0).bind λt=>bB ((t !=0)==br) ((aq a.2.2.2.1 (ar a.1)).bind λu=>bB (u !=ar a.2.2.2.2.1) (Y (.inr (br,()))) (Y (.inl ()))) (Y (.inr (br,())))) λb=>match b with
 |.inl _=>((loop (σ:=eG) (ρ:=(bw⊕jH)) (λ(f,_)=>bif bz (f<ar j) then((aq j f).bind λi=>(aq a.2.1 f).bind λm=>(loop (σ:=eG) (ρ:=(bw⊕(eG⊕(bw⊕jH)))) (λ(d,_)=>bif bz (d<=az (az (i+m)-1)) then(bE (α:=bw⊕z5) (bE (α:=bw⊕(bw⊕z5)) ((aq a.2.2.2.1 d).bind λv=>(aq a.2.2.2.1 (aO d)).bind λp=>bB (bz (v>p)==br) ((aq a.2.2.2.1 (aO d)).bind λq=>bB (bz (q>ar a.2.2.2.2.1)) (Y (.inr (.inr (.inr (.inr (.inr (.inr (br,())))))))) (Y (.inl ()))) (Y (.inr (.inr (.inr (.inr (.inr (.inr (br,()))))))))) λb=>match b with
 |.inl _=>((aq a.2.2.2.1 d).bind λr=>(aq a.2.2.2.1 (aO d)).bind λs=>((gF r).bind λk=>(gF s).bind λl=>(he k l (a.2.2.2.2.1).length).map λ_=>(k,l)).bind λe=>(loop (σ:=nw) (ρ:=(bw⊕(bw⊕z5))) (λ(n,g,_)=>bif bz (g<ar (((a.2.2.2.2.1).take e.2).drop e.1)) then(bE (α:=eG⊕(nw⊕(bw⊕(bw⊕z5)))) ((aq (((a.2.2.2.2.1).take e.2).drop e.1) g).bind λh=>bE (α:=bw⊕(eG⊕(nw⊕(bw⊕(bw⊕z5))))) (bB (bz (h<=n)==br) (bB (bz (h>=ar a.1)) (Y (.inr (.inr (.inr (.inr (.inr (.inr (.inr (.inr (.inr (br,()))))))))))) (Y (.inl ()))) (Y (.inr (.inr (.inr (.inr (.inr (.inr (.inr (.inr (.inr (br,())))))))))))) λb=>match b with
 |.inl _=>(Y (.inl (h,())))
 |.inr c=>Y c) λb=>match b with
 |.inl (o,_)=>(Y (.inl (o,aO g,())))
 |.inr c=>Y c) else Y (.inr (.inl ()))) (az (az (i+m)-1),0,())).bind λb=>match b with
 |.inl _=>(Y (.inl ()))
 |.inr c=>Y c)
 |.inr c=>Y c) λb=>match b with
 |.inl _=>(Y (.inl (aO d,())))
 |.inr c=>Y c) else Y (.inr (.inl ()))) (i,())).bind λb=>match b with
 |.inl _=>(Y (.inl (aO f,())))
 |.inr c=>Y c) else Y (.inr (.inl ()))) (0,())).bind λb=>match b with
 |.inl _=>(Y (bt,()))
 |.inr c=>Y c)
 |.inr c=>Y c
def x7:(c3×bw)->bA (fP×bw):=λ(c,_)=>(loop (σ:=(Z×Z×fP×bw)) (ρ:=(fP×bw)) (λ(k,d,f,_)=>bB (bz (d<ar c.2.1)) ((aq c.2.1 d).bind λn=>(loop (σ:=(Z×Z×fP×fg×bw)) (ρ:=(Z×fP×fg×bw)) (λ(a,j,g,b,_)=>bB (bz (j<az (az (2*n)-1))) ((aq c.2.2.1 a).bind λo=>(ld (o,())).bind λ(i,_)=>(cI (b.length+([i]).length)).bind λ_=>Y (.inl (aO a,aO j,g,(b++[i]),()))) (Y (.inr (a,g,b,())))) (k,0,f,[],())).bind λ(l,h,e,_)=>(cI (h.length+([e]).length)).bind λ_=>Y (.inl (l,aO d,(h++[e]),()))) (Y (.inr (f,())))) (0,0,[],())).bind λ(m,_)=>Y (m,())
def rM:(c3×bw)->bA eG:=λ(a,_)=>bE (α:=bw⊕eG) (bB (bz (ar a.1>200)) (Y (.inr (6,()))) ((II (a.1,())).bind λ(n,_)=>bB (!n) (Y (.inr (90,()))) (bB ((ar a.2.2.2.1 !=aO (ar a.1))==br) (bB (ar a.2.2.2.2.1 !=ar a.2.2.2.2.2.1) (Y (.inr (2,()))) (Y (.inl ()))) (Y (.inr (2,())))))) λb=>match b with
 |.inl _=>((AM (a,())).bind λ(q,aU,_)=>bE (α:=bw⊕eG) (bB ((!aU)==br) (bB (bz (a.2.2.2.2.2.2.1<0)==br) ((D8 (a,q,())).bind λ(r,_)=>bB (!r) (Y (.inr (240,()))) (Y (.inl ()))) (Y (.inr (240,())))) (Y (.inr (240,())))) λb=>match b with
 |.inl _=>((loop (σ:=(Z×bp aM×bw)) (ρ:=(bw⊕eG)) (λ(g,j,_)=>bif bz (g<ar ([a.2.2.2.2.2.1,a.2.2.1])) then(rd j g λk=>(loop (σ:=(Z×bp aM×bw)) (ρ:=((bp aM×bw)⊕((Z×bp aM×bw)⊕(bw⊕eG)))) (λ(d,i,_)=>bB (bz (d<ar k)) ((aq k d).bind λu=>(pG (u,())).bind λ(m,_)=>bB (!m) (Y (.inr (.inr (.inr (.inr (4,())))))) (Y (.inl (aO d,i,())))) (Y (.inr (.inl (i,()))))) (0,j,())).bind λb=>match b with
 |.inl (s,_)=>(Y (.inl (aO g,s,())))
 |.inr c=>Y c) else Y (.inr (.inl ()))) (0,[a.2.2.2.2.2.1,a.2.2.1],())).bind λb=>match b with
 |.inl _=>((x7 (a,())).bind λ(h,_)=>(loop (σ:=(Z×fP×bw)) (ρ:=(bw⊕eG)) (λ(e,f,_)=>bif bz (e<ar h) then(bE (α:=(fP×bw)⊕((Z×fP×bw)⊕(bw⊕eG))) (rd f e λl=>bB ((ar l==3)==bt) ((vz (l,())).bind λ(o,_)=>(pF (o,())).bind λ(p,_)=>bB (p==0) (Y (.inr (.inr (.inr (4,()))))) (Y (.inl (f,())))) (Y (.inl (f,())))) λb=>match b with
 |.inl (t,_)=>(Y (.inl (aO e,t,())))
 |.inr c=>Y c) else Y (.inr (.inl ()))) (0,h,())).bind λb=>match b with
 |.inl _=>(Y (0,()))
 |.inr c=>Y c)
 |.inr c=>Y c)
 |.inr c=>Y c)
 |.inr c=>Y c
def D6:(c3×bw)->bA (pA×Z×bw):=λ(j,_)=>(rM (j,())).bind λ(l,_)=>(bif l !=0 then Y (((0:Z),((0:Z),((0:Z),()))),l,()) else(x7 (j,())).bind λ(m,_)=>(loop (σ:=(Z×pA×pA×fP×bw)) (ρ:=(pA×pA×bw)) (λ(h,c,b,d,_)=>bif bz (h<ar m) then bE (α:=(pA×pA×fP×bw)) (rd d h λi=>(aq i 0).bind λv=>(pF (v,())).bind λ(k,_)=>bE (α:=(Z×pA×pA×fP×bw)⊕(pA×pA×fP×bw)) (bB (ar i==3) ((vz (i,())).bind λ(r,_)=>(pF (r,())).bind λ(s,_)=>bB (bz (s<0)) (Y (.inr (c,(aO b.1,(b.2.1,(az (b.2.2.1+1),b.2.2.2))),d,()))) (Y (.inl (2,c,b,d,())))) (Y (.inl (1,c,b,d,())))) λp=>match p with
 |.inl (e,f,a,g,_)=>(bB (bz (k<0)) (Y (f,(az (a.1+e),a.2),g,())) (bB (bz (k>0)) (Y (f,(a.1,(a.2.1,(az (a.2.2.1+e),a.2.2.2))),g,())) (Y (f,(a.1,(az (a.2.1+e),a.2.2)),g,()))))
 |.inr q=>Y q) λ(t,n,u,_)=>Y (.inl (aO h,t,n,u,())) else Y (.inr (c,b,()))) (0,((0:Z),((0:Z),((0:Z),()))),((0:Z),((0:Z),((0:Z),()))),m,())).bind λ(_,o,_)=>Y (o,0,()))
def Fe:(c3×bw)->bA jH:=λ(a,_)=>bE (α:=bw⊕jH) (bB (bz (a.2.2.2.2.2.2.1<0)==br) ((E8 (a.2.2.2.1,ar a.1,ar a.2.2.2.2.1,())).bind λ(n,_)=>bB (!n) (Y (.inr (br,()))) (Y (.inl ()))) (Y (.inr (br,())))) λb=>match b with
 |.inl _=>((loop (σ:=ej) (ρ:=(nw⊕jH)) (λ(f,i,d,_)=>bif bz (d<ar a.2.1) then(bE (α:=nw⊕xB) (bE (α:=bw⊕(nw⊕xB)) ((aq a.2.1 d).bind λw=>bB ((w !=1)==bt) ((aq a.2.1 d).bind λx=>bB ((x !=2)==br) ((aq a.2.1 d).bind λy=>bB (bz (az (f+y)>ar a.1)) (Y (.inr (.inr (.inr (.inr (br,())))))) (Y (.inl ()))) (Y (.inr (.inr (.inr (.inr (br,()))))))) ((aq a.2.1 d).bind λz=>bB (bz (az (f+z)>ar a.1)) (Y (.inr (.inr (.inr (.inr (br,())))))) (Y (.inl ())))) λb=>match b with
 |.inl _=>((aq a.2.1 d).bind λh=>(loop (σ:=eG) (ρ:=(bw⊕(nw⊕xB))) (λ(g,_)=>bif bz (g<=az (az (f+h)-1)) then((aq a.2.2.2.1 g).bind λo=>(loop (σ:=eG) (ρ:=(bw⊕(eG⊕(bw⊕(nw⊕xB))))) (λ(e,_)=>(aq a.2.2.2.1 (aO g)).bind λp=>bif bz (e<p) then(bE (α:=bw⊕(eG⊕(bw⊕(eG⊕(bw⊕(nw⊕xB)))))) ((aq a.2.2.2.2.1 e).bind λq=>bB (bz (q<=az (az (f+h)-1))==br) ((aq a.2.2.2.2.1 e).bind λr=>bB (bz (r>=ar a.1)==br) ((aq a.2.2.2.1 g).bind λs=>bB (bz (e>s)==bt) ((aq a.2.2.2.2.1 e).bind λt=>(aq a.2.2.2.2.1 (az (e-1))).bind λu=>bB (bz (t<=u)) (Y (.inr (.inr (.inr (.inr (.inr (.inr (.inr (.inr (br,())))))))))) (Y (.inl ()))) (Y (.inl ()))) (Y (.inr (.inr (.inr (.inr (.inr (.inr (.inr (.inr (br,()))))))))))) (Y (.inr (.inr (.inr (.inr (.inr (.inr (.inr (.inr (br,()))))))))))) λb=>match b with
 |.inl _=>(Y (.inl (aO e,())))
 |.inr c=>Y c) else Y (.inr (.inl ()))) (o,())).bind λb=>match b with
 |.inl _=>(Y (.inl (aO g,())))
 |.inr c=>Y c) else Y (.inr (.inl ()))) (f,())).bind λb=>match b with
 |.inl _=>((aq a.2.1 d).bind λv=>Y (.inl (aO (az (az (f+h)-1)),az (az (i+az (2*v))-1),())))
 |.inr c=>Y c)
 |.inr c=>Y c) λb=>match b with
 |.inl (l,j,_)=>(Y (.inl (l,j,aO d,())))
 |.inr c=>Y c) else Y (.inr (.inl (f,i,())))) (0,0,0,())).bind λb=>match b with
 |.inl (m,k,_)=>(bB ((m==ar a.1)==bt) (Y ((k==ar a.2.2.1),())) (Y (br,())))
 |.inr c=>Y c)
 |.inr c=>Y c
def tD:(c3×bw)->bA eG:=λ(a,_)=>bE (α:=bw⊕eG) (bB (bz (ar a.1>200)) (Y (.inr (6,()))) ((Bf (a.1,ar a.1,())).bind λ(o,_)=>bB (!o) (Y (.inr (90,()))) (bE (α:=jH) (bB ((ar a.2.2.2.1 !=aO (ar a.1))==br) (Y ((ar a.2.2.2.2.1 !=ar a.2.2.2.2.2.1),())) (Y (bt,()))) λ(q,_)=>bB q (Y (.inr (2,()))) ((Fe (a,())).bind λ(aU,_)=>bB (!aU) (Y (.inr (240,()))) (Y (.inl ())))))) λb=>match b with
 |.inl _=>((loop (σ:=eG) (ρ:=(bw⊕eG)) (λ(f,_)=>bB (bz (f<ar a.2.2.2.2.2.1)) ((aq a.2.2.2.2.2.1 f).bind λt=>(pI (t,())).bind λ(p,_)=>bB (!p) (Y (.inr (.inr (4,())))) (Y (.inl (aO f,())))) (Y (.inr (.inl ())))) (0,())).bind λb=>match b with
 |.inl _=>((loop (σ:=eG) (ρ:=(bw⊕eG)) (λ(g,_)=>bB (bz (g<ar a.2.2.1)) ((aq a.2.2.1 g).bind λu=>(pI (u,())).bind λ(l,_)=>bB (!l) (Y (.inr (.inr (4,())))) (Y (.inl (aO g,())))) (Y (.inr (.inl ())))) (0,())).bind λb=>match b with
 |.inl _=>((loop (σ:=nw) (ρ:=(bw⊕eG)) (λ(e,d,_)=>bif bz (d<ar a.2.1) then(bE (α:=eG⊕(nw⊕(bw⊕eG))) (bE (α:=bw⊕(eG⊕(nw⊕(bw⊕eG)))) ((aq a.2.1 d).bind λr=>bB ((r==2)==bt) (((gF e).bind λh=>(gF (az (e+3))).bind λi=>(he h i (a.2.2.1).length).map λ_=>(h,i)).bind λj=>(vM ((((a.2.2.1).take j.2).drop j.1),())).bind λ(m,_)=>(A0 (m,())).bind λ(n,_)=>bB (n==0) (Y (.inr (.inr (.inr (.inr (4,())))))) (Y (.inl ()))) (Y (.inl ()))) λb=>match b with
 |.inl _=>((aq a.2.1 d).bind λs=>Y (.inl (az (az (e+az (2*s))-1),())))
 |.inr c=>Y c) λb=>match b with
 |.inl (k,_)=>(Y (.inl (k,aO d,())))
 |.inr c=>Y c) else Y (.inr (.inl ()))) (0,0,())).bind λb=>match b with
 |.inl _=>(Y (0,()))
 |.inr c=>Y c)
 |.inr c=>Y c)
 |.inr c=>Y c)
 |.inr c=>Y c
def E9:(c3×bw)->bA (fP×fP×bw):=λ(a,_)=>(loop (σ:=(Z×fP×fP×bw)) (ρ:=(fP×fP×bw)) (λ(l,d,m,_)=>bif bz (l<ar a.1) then(fS (ar a.1) (ar a.1)).bind λj=>(cI (d.length+([bJ j (br,((br,(([]:ak7),())),((0:Z),())))]).length)).bind λ_=>(fS (ar a.1) (ar a.1)).bind λL=>(cI (m.length+([bJ L (br,((br,(([]:ak7),())),((0:Z),())))]).length)).bind λ_=>(bm (d++[bJ j (br,((br,(([]:ak7),())),((0:Z),())))]).length l).bind λs=>(tv (1,())).bind λ(d0,_)=>((ba (d++[bJ j (br,((br,(([]:ak7),())),((0:Z),())))]) s λT=>Y T).bind λU=>bm U.length l).bind λE=>(ba (d++[bJ j (br,((br,(([]:ak7),())),((0:Z),())))]) s λy=>(ba y E λ_=>Y (y.set E d0)).map λem=>(d++[bJ j (br,((br,(([]:ak7),())),((0:Z),())))]).set s em).bind λeq=>
 Y (.inl (aO l,eq,(m++[bJ L (br,((br,(([]:ak7),())),((0:Z),())))]),())) else Y (.inr (d,m,()))) (0,[],[],())).bind λ(ce,P,_)=>(loop (σ:=(Z×fP×fP×bw)) (ρ:=(fP×fP×bw)) (λ(h,K,w,_)=>bB (bz (h<ar a.1)) ((aq a.2.2.2.1 h).bind λd1=>(loop (σ:=(Z×fP×fP×bw)) (ρ:=(fP×fP×bw)) (λ(k,i,x,_)=>(aq a.2.2.2.1 (aO h)).bind λd2=>bB (bz (k<d2)) ((aq a.2.2.2.2.1 k).bind λd3=>(bm i.length d3).bind λn=>(aq a.2.2.2.2.2.1 k).bind λd4=>(jJ (d4,())).bind λ(c1,_)=>((ba i n λV=>Y V).bind λad=>bm ad.length h).bind λF=>(ba i n λz=>(ba z F λ_=>Y (z.set F c1)).map λex=>i.set n ex).bind λfl=>Y (.inl (aO k,fl,x,()))) (Y (.inr (i,x,())))) (d1,K,w,())).bind λ(ci,Q,_)=>Y (.inl (aO h,ci,Q,()))) (Y (.inr (K,w,())))) (0,ce,P,())).bind λ(co,R,_)=>
 (loop (σ:=(Z×Z×Z×fP×fP×bw)) (ρ:=(fP×fP×bw)) (λ(b,e,f,t,g,_)=>bif bz (f<ar a.2.1) then bE (α:=(Z×Z×fP×fP×bw)) ((bm g.length b).bind λo=>(aq a.2.2.1 e).bind λd5=>(jJ (d5,())).bind λ(c2,_)=>((ba g o λam=>Y am).bind λan=>bm an.length b).bind λG=>(ba g o λA=>(ba A G λ_=>Y (A.set G c2)).map λfn=>g.set o fn).bind λc=>bE (α:=(fP×fP×bw)) ((aq a.2.1 f).bind λd6=>bif d6==2 then(bm c.length (aO b)).bind λp=>(bm c.length b).bind λq=>(bm c.length (aO b)).bind λr=>(aq a.2.2.1 (aO e)).bind λd7=>(jJ (d7,())).bind λ(dg,_)=>(aq a.2.2.1 (aO e)).bind λd8=>(jJ (d8,())).bind λ(dl,_)=>(aq a.2.2.1 (az (e+2))).bind λd9=>(jJ (d9,())).bind λ(ds,_)=>((ba c p λap=>Y ap).bind λav=>bm av.length b).bind λH=>(ba c p λB=>(ba B H λ_=>Y (B.set H dg)).map λfp=>c.set p fp).bind λu=>
 ((ba u q λa0=>Y a0).bind λa3=>bm a3.length (aO b)).bind λI=>(ba u q λC=>(ba C I λ_=>Y (C.set I dl)).map λfr=>u.set q fr).bind λv=>((ba v r λa4=>Y a4).bind λbl=>bm bl.length (aO b)).bind λJ=>(ba v r λD=>(ba D J λ_=>Y (D.set J ds)).map λfs=>v.set r fs).bind λft=>Y (t,ft,()) else Y (t,c,())) λ(cs,S,_)=>(aq a.2.1 f).bind λek=>(aq a.2.1 f).bind λel=>Y (az (b+ek),az (az (e+az (2*el))-1),cs,S,())) λ(bs,M,cv,N,_)=>Y (.inl (bs,M,aO f,cv,N,())) else Y (.inr (t,g,()))) (0,0,0,co,R,())).bind λ(bx,O,_)=>Y (bx,O,())
def Bh:(c3×bw)->bA (hf×Z×bw):=λ(a,_)=>(tD (a,())).bind λ(n,_)=>(bif n !=0 then Y (((0:Z),((0:Z),(([]:fg),()))),n,()) else bif bz (ar a.1>64) then Y (((0:Z),((0:Z),(([]:fg),()))),6,()) else(E9 (a,())).bind λ(o,B,_)=>(Bd (ar a.1,ar a.1,())).bind λ(C,_)=>(loop (σ:=(Z×hf×hf×bw)) (ρ:=(hf×hf×bw)) (λ(f,q,j,_)=>bif bz (f<ar a.1) then(loop (σ:=(Z×hf×hf×bw)) (ρ:=(hf×hf×bw)) (λ(e,r,k,_)=>bif bz (e<ar a.1) then(loop (σ:=(Z×hf×hf×fg×bw)) (ρ:=(hf×hf×fg×bw)) (λ(b,s,l,t,_)=>bif bz (b<ar a.1) then(loop (σ:=(Z×hf×hf×fg×bw)) (ρ:=(hf×hf×fg×bw)) (λ(d,h,g,i,_)=>bE (α:=(hf×hf×fg×bw)⊕((Z×hf×hf×fg×bw)⊕(hf×hf×fg×bw))) (bif bz (d<ar a.1)==bt then bif bz (d<=aO b) then Y (.inl (h,g,i,())) else
 Y (.inr (.inr (h,g,i,()))) else Y (.inr (.inr (h,g,i,())))) λz=>match z with
 |.inl (F,v,u,_)=>((aq o e).bind λL=>(aq L b).bind λM=>(aq B b).bind λN=>(aq N d).bind λO=>(kc (M,O,())).bind λ(D,_)=>(aq o f).bind λP=>(aq P d).bind λQ=>(kc (D,Q,())).bind λ(p,_)=>(cI (u.length+([p]).length)).bind λ_=>Y (.inl (aO d,F,v,(u++[p]),())))
 |.inr A=>Y A) ((if 0>az (b-1) then 0 else az (b-1)),s,l,t,())).bind λ(G,w,H,_)=>Y (.inl (aO b,G,w,H,())) else Y (.inr (s,l,t,()))) (0,r,k,[],())).bind λ(I,c,J,_)=>(A1 (J,())).bind λ(E,_)=>(bm (c.2.2.1).length (az (az (f*ar a.1)+e))).bind λm=>((((ba c.2.2.1 m λ_=>Y ((c.2.2.1).set m E)).map λR=>(R,c.2.2.2)).map λS=>(c.2.1,S)).map λT=>(c.1,T)).bind λU=>Y (.inl (aO e,I,U,())) else Y (.inr (r,k,()))) (0,q,j,())).bind λ(K,x,_)=>Y (.inl (aO f,K,x,())) else Y (.inr (q,j,()))) (0,((0:Z),((0:Z),([],()))),C,())).bind λ(_,y,_)=>Y (y,0,()))
def x9:(c3×Z×bw)->bA (bA (bp (Z×cP)×X)×bw):=λ(b,c,_)=>(pE (1,())).bind λ(i,_)=>(BK (Y ([],0)) c i).bind λg=>(aq b.2.2.2.1 c).bind λk=>(loop (σ:=(Z×bA (bp (Z×cP)×X)×bw)) (ρ:=(bA (bp (Z×cP)×X)×bw)) (λ(a,d,_)=>(aq b.2.2.2.1 (aO c)).bind λl=>bB (bz (a<l)) ((aq b.2.2.2.2.1 a).bind λm=>(aq b.2.2.2.2.2.1 a).bind λj=>(ld (j,())).bind λ(h,_)=>(BK d m h).bind λf=>Y (.inl (aO a,f,()))) (Y (.inr (d,())))) (k,g,())).bind λ(e,_)=>Y (e,())
def vN:(ny×c3×bw)->bA (cP×Z×bw):=λ(d,a,_)=>(tD (a,())).bind λ(b,_)=>(bB (b !=0) (Y ((br,((br,(([]:ak7),())),((0:Z),()))),b,())) ((vL (d,a.1,())).bind λ(aU,c,_)=>bB (c !=0) (Y ((br,((br,(([]:ak7),())),((0:Z),()))),c,())) ((Bh (a,())).bind λ(e,_,_)=>(I1 (aU,e,())).bind λ(f,_)=>Y (f,0,()))))
def Ed:(df×Z×Z×bw)->bA (df×bp eO×Z×bw):=λ(a,j,k,_)=>(AL (Y a,())).bind λ(b,_)=>(ld (k,())).bind λ(c,_)=>(pF (c,())).bind λ(l,_)=>(bB (l==0) ((pE (1,())).bind λ(m,_)=>(IE (Y a,b,(),m,())).bind λ(n,d,e,_)=>bB (e !=0) (Y (a,[],e,())) ((pH (d,c,())).bind λ(o,_)=>(qB (a,b,o,d,())).bind λ(h,_)=>Y (h,[n],0,()))) ((IF (Y a,b,(Y (Y a),Y j,()),c,())).bind λ(p,f,g,_)=>bB (g !=0) (Y (a,[],g,())) ((pH (f,c,())).bind λ(q,_)=>(qB (a,b,q,f,())).bind λ(i,_)=>Y (i,[p],0,()))))
def AJ:(Z×Z×Z×cP×cP×bA (bA df)×bw)->bA (cP×bw):=λ(a,c,d,h,i,b,_)=>b.bind λo=>o.bind λp=>(aq p.2.2.2.1 a).bind λq=>(aq q c).bind λj=>(m0 (j,h,())).bind λ(e,_)=>b.bind λk=>k.bind λl=>(aq l.2.2.2.1 a).bind λm=>(aq m d).bind λn=>(m0 (n,i,())).bind λ(f,_)=>(vv (e,f,())).bind λ(g,_)=>Y (g,())
def Eb:(Z×bA (bA (bA df)×bw)×ak1×ak1×bA fg×bw)->bA (cP×bw):=λ(b,c,d,e,a,_)=>c.bind λj=>d.bind λk=>e.bind λl=>a.bind λm=>(aq m 2).bind λg=>a.bind λh=>(aq h 1).bind λi=>(AJ (b,k,l,g,i,j.1,())).bind λ(f,_)=>Y (f,())
def IG:(bA df×aM×(bA (bA (bA df)×bw)×ak1×ak1×bA fg×bw)×cP×bw)->bA (eO×fg×Z×bw):=λ(r,f,b,q,_)=>(loop (σ:=(Z×eO×eO×fg×bw)) (ρ:=((eO×eO×fg×bw)⊕(eO×fg×Z×bw))) (λ(e,h,a,d,_)=>bB (bz (e<ar f)) ((aq f e).bind λi=>(Eb (i,b.1,b.2.1,b.2.2.1,b.2.2.2.1,())).bind λ(o,_)=>(td (o,q,0,())).bind λ(c,_)=>(pG (c,())).bind λ(p,_)=>bB (!p) (Y (.inr (.inr (a,[],233,())))) (r.bind λs=>(aq s.1 i).bind λj=>(cI ((a.1).length+([j]).length)).bind λ_=>(cI ((a.2.1).length+([c]).length)).bind λ_=>(ld (c,())).bind λ(g,_)=>(cI (d.length+([g]).length)).bind λ_=>Y (.inl (aO e,h,((a.1++[j]),((a.2.1++[c]),a.2.2)),(d++[g]),())))) (Y (.inr (.inl (h,a,d,()))))) (0,([],([],())),([],([],())),[],())).bind λm=>match m with
 |.inl (_,k,l,_)=>(Y (k,l,0,()))
 |.inr n=>Y n
def Ec:(Z×bA (bA (bA df)×bw)×ak1×ak1×bA fg×bw)->bA (cP×bw):=λ(b,c,d,e,a,_)=>c.bind λj=>d.bind λk=>e.bind λl=>a.bind λm=>(aq m 0).bind λg=>a.bind λh=>(aq h 1).bind λi=>(AJ (b,k,l,g,i,j.1,())).bind λ(f,_)=>Y (f,())
def IH:(bA df×aM×(bA (bA (bA df)×bw)×ak1×ak1×bA fg×bw)×cP×bw)->bA (eO×fg×Z×bw):=λ(r,f,b,q,_)=>(loop (σ:=(Z×eO×eO×fg×bw)) (ρ:=((eO×eO×fg×bw)⊕(eO×fg×Z×bw))) (λ(e,h,a,d,_)=>bB (bz (e<ar f)) ((aq f e).bind λi=>(Ec (i,b.1,b.2.1,b.2.2.1,b.2.2.2.1,())).bind λ(o,_)=>(td (o,q,0,())).bind λ(c,_)=>(pG (c,())).bind λ(p,_)=>bB (!p) (Y (.inr (.inr (a,[],233,())))) (r.bind λs=>(aq s.1 i).bind λj=>(cI ((a.1).length+([j]).length)).bind λ_=>(cI ((a.2.1).length+([c]).length)).bind λ_=>(ld (c,())).bind λ(g,_)=>(cI (d.length+([g]).length)).bind λ_=>Y (.inl (aO e,h,((a.1++[j]),((a.2.1++[c]),a.2.2)),(d++[g]),())))) (Y (.inr (.inl (h,a,d,()))))) (0,([],([],())),([],([],())),[],())).bind λm=>match m with
 |.inl (_,k,l,_)=>(Y (k,l,0,()))
 |.inr n=>Y n
def AI:(df×Z×Z×aM×bw)->bA (df×bp eO×Z×bw):=λ(a,i,m,h,_)=>(AL (Y a,())).bind λ(e,_)=>(aq h 0).bind λx=>(ld (x,())).bind λ(b,_)=>(aq h 1).bind λy=>(ld (y,())).bind λ(c,_)=>(aq h 2).bind λz=>(ld (z,())).bind λ(d,_)=>(vz ([b,c,d],())).bind λ(j,_)=>(IG (Y a,e,(Y (Y (Y a),()),Y i,Y m,Y [b,c,d],()),j,())).bind λ(r,f,k,_)=>(bif k !=0 then Y (a,[],k,()) else(IH (Y a,e,(Y (Y (Y a),()),Y m,Y i,Y [b,c,d],()),j,())).bind λ(s,g,l,_)=>bif l !=0 then Y (a,[],l,()) else(aq [b,c,d] 0).bind λA=>(pH (f,A,())).bind λ(t,_)=>(qB (a,e,t,f,())).bind λ(n,_)=>(aq [b,c,d] 1).bind λB=>(pH (f,B,())).bind λ(u,_)=>
 (qB (n,e,u,g,())).bind λ(o,_)=>(aq [b,c,d] 1).bind λC=>(pH (g,C,())).bind λ(v,_)=>(qB (o,e,v,f,())).bind λ(p,_)=>(aq [b,c,d] 2).bind λD=>(pH (g,D,())).bind λ(w,_)=>(qB (p,e,w,g,())).bind λ(q,_)=>Y (q,[r,s],0,()))
def Eh:((bA (Z×((bp aM×bw)×(bp (bA (bp (Z×cP)×X))×bw)))×(aM×(aM×(aM×(bp eO×eG)))))×df×aM×bw)->bA ((bA (Z×((bp aM×bw)×(bp (bA (bp (Z×cP)×X))×bw)))×(aM×(aM×(aM×(bp eO×eG)))))×df×Z×bw):=λ(C,D,a,_)=>(loop (σ:=(Z×(bA (Z×((bp aM×bw)×(bp (bA (bp (Z×cP)×X))×bw)))×(aM×(aM×(aM×(bp eO×eG)))))×df×aM×bw)) (ρ:=((bA (Z×((bp aM×bw)×(bp (bA (bp (Z×cP)×X))×bw)))×(aM×(aM×(aM×(bp eO×eG)))))×df×aM×bw)) (λ(d,o,r,l,_)=>bif bz (d<ar a) then(loop (σ:=(Z×(bA (Z×((bp aM×bw)×(bp (bA (bp (Z×cP)×X))×bw)))×(aM×(aM×(aM×(bp eO×eG)))))×df×aM×bw)) (ρ:=((bA (Z×((bp aM×bw)×(bp (bA (bp (Z×cP)×X))×bw)))×(aM×(aM×(aM×(bp eO×eG)))))×df×aM×bw)) (λ(i,p,j,h,_)=>bif bz (i<aO d) then(aq a d).bind λF=>
 (aq a i).bind λG=>(tm (Y j,F,G,())).bind λ(n,_)=>(cI (h.length+([n]).length)).bind λ_=>Y (.inl (aO i,p,j,(h++[n]),())) else Y (.inr (p,j,h,()))) (0,o,r,l,())).bind λ(g,e,u,_)=>(aq a d).bind λH=>(bm (e.2.2.1).length H).bind λm=>((((ba e.2.2.1 m λ_=>Y ((e.2.2.1).set m br)).map λN=>(N,e.2.2.2)).map λO=>(e.2.1,O)).map λP=>(e.1,P)).bind λt=>(aq a d).bind λI=>rd t.1 I λs=>(cI ((g.2.1).length+([s]).length)).bind λ_=>Y (.inl (aO d,(g.1,((g.2.1++[s]),g.2.2)),t,u,())) else Y (.inr (o,r,l,()))) (0,C,D,[],())).bind λ(b,q,f,_)=>(cI ((b.2.2.1).length+([ar a]).length)).bind λ_=>(cI ((b.2.2.2.1).length+f.length)).bind λ_=>bE (α:=(Z×bp eO×(bA (Z×((bp aM×bw)×(bp (bA (bp (Z×cP)×X))×bw)))×(aM×(aM×(aM×(bp eO×eG)))))×df×bw)) (bif ar a==1 then
 (aq a 0).bind λJ=>rd f 0 λK=>(Ed (q,J,K,())).bind λ(w,y,z,_)=>Y (z,y,(b.1,(b.2.1,((b.2.2.1++[ar a]),((b.2.2.2.1++f),b.2.2.2.2)))),w,()) else(aq a 0).bind λL=>(aq a 1).bind λM=>(AI (q,L,M,f,())).bind λ(x,A,B,_)=>Y (B,A,(b.1,(b.2.1,((b.2.2.1++[ar a]),((b.2.2.2.1++f),b.2.2.2.2)))),x,())) λ(v,k,c,E,_)=>(cI ((c.2.2.2.2.1).length+k.length)).bind λ_=>Y ((c.1,(c.2.1,(c.2.2.1,(c.2.2.2.1,((c.2.2.2.2.1++k),c.2.2.2.2.2))))),E,v,())
def Ej:((bA (Z×((bp aM×bw)×(bp (bA (bp (Z×cP)×X))×bw)))×(aM×(aM×(aM×(bp eO×eG)))))×df×bw)->bA ((bA (Z×((bp aM×bw)×(bp (bA (bp (Z×cP)×X))×bw)))×(aM×(aM×(aM×(bp eO×eG)))))×df×Z×bw):=λ(n,s,_)=>(loop (σ:=((bA (Z×((bp aM×bw)×(bp (bA (bp (Z×cP)×X))×bw)))×(aM×(aM×(aM×(bp eO×eG)))))×df×bw)) (ρ:=(((bA (Z×((bp aM×bw)×(bp (bA (bp (Z×cP)×X))×bw)))×(aM×(aM×(aM×(bp eO×eG)))))×df×bw)⊕((bA (Z×((bp aM×bw)×(bp (bA (bp (Z×cP)×X))×bw)))×(aM×(aM×(aM×(bp eO×eG)))))×df×Z×bw))) (λ(d,c,_)=>(Ea (Y c,())).bind λ(h,i,_)=>bB (i !=0) (Y (.inr (.inr (d,c,i,())))) (bB (ar h==0) (Y (.inr (.inl (d,c,())))) ((Eh (d,c,h,())).bind λ(f,g,j,_)=>bB (j !=0) (Y (.inr (.inr (f,g,j,())))) (Y (.inl (f,g,())))))) (n,s,())).bind λl=>match l with
 |.inl (o,k,_)=>((loop (σ:=(Z×(bA (Z×((bp aM×bw)×(bp (bA (bp (Z×cP)×X))×bw)))×(aM×(aM×(aM×(bp eO×eG)))))×df×bw)) (ρ:=((bA (Z×((bp aM×bw)×(bp (bA (bp (Z×cP)×X))×bw)))×(aM×(aM×(aM×(bp eO×eG)))))×df×bw)) (λ(e,a,b,_)=>bB (bz (e<k.2.1)) (bE (α:=((bA (Z×((bp aM×bw)×(bp (bA (bp (Z×cP)×X))×bw)))×(aM×(aM×(aM×(bp eO×eG)))))×df×bw)) (rd b.2.2.1 e λu=>bB u (Y ((a.1,(a.2.1,(a.2.2.1,(a.2.2.2.1,(a.2.2.2.2.1,(aO a.2.2.2.2.2.1,a.2.2.2.2.2.2)))))),b,())) (Y (a,b,()))) λ(p,r,_)=>Y (.inl (aO e,p,r,()))) (Y (.inr (a,b,())))) (0,o,k,())).bind λ(q,t,_)=>Y (q,t,0,()))
 |.inr m=>Y m
def m1:(ny×aM×bp qp×bw)->bA (c3×Z×bw):=λ(x,o,b,_)=>(qF (x,o,())).bind λ(i,p,_)=>(bif p !=0 then Y ((([]:aM),(([]:aM),(([]:aM),(([]:aM),(([]:aM),(([]:aM),((0:Z),()))))))),p,()) else i.bind λM=>(vQ (M.2.1,b,())).bind λ(q,_)=>bif q !=0 then Y ((([]:aM),(([]:aM),(([]:aM),(([]:aM),(([]:aM),(([]:aM),((0:Z),()))))))),q,()) else(Ew (b,(),())).bind λ(E,_)=>bif E then Y ((([]:aM),(([]:aM),(([]:aM),(([]:aM),(([]:aM),(([]:aM),((0:Z),()))))))),6,()) else((fS (ar b) (ar b)).bind λD=>(loop (σ:=(Z×c3×(bA (Z×((bp aM×bw)×(bp (bA (bp (Z×cP)×X))×bw)))×(aM×(aM×(aM×(bp eO×eG)))))×bp (bp (bA df))×bw)) (ρ:=((c3×(bA (Z×((bp aM×bw)×(bp (bA (bp (Z×cP)×X))×bw)))×(aM×(aM×(aM×(bp eO×eG)))))×bw)⊕(c3×Z×bw))) (λ(d,k,j,e,_)=>
 bif bz (d<ar b) then(bE (α:=(c3×(bA (Z×((bp aM×bw)×(bp (bA (bp (Z×cP)×X))×bw)))×(aM×(aM×(aM×(bp eO×eG)))))×bp (bp (bA df))×bw)⊕((Z×c3×(bA (Z×((bp aM×bw)×(bp (bA (bp (Z×cP)×X))×bw)))×(aM×(aM×(aM×(bp eO×eG)))))×bp (bp (bA df))×bw)⊕((c3×(bA (Z×((bp aM×bw)×(bp (bA (bp (Z×cP)×X))×bw)))×(aM×(aM×(aM×(bp eO×eG)))))×bw)⊕(c3×Z×bw)))) ((aq b d).bind λl=>rd e d λw=>(D7 (i,l,w,())).bind λ(r,s,_)=>bE (α:=(Z×c3×(bA (Z×((bp aM×bw)×(bp (bA (bp (Z×cP)×X))×bw)))×(aM×(aM×(aM×(bp eO×eG)))))×bp (bp (bA df))×qp×df×bw)) (bB (s==0) ((Ej (j,r,())).bind λ(B,C,F,_)=>Y (F,k,B,e,l,C,())) (Y (s,k,j,e,l,r,()))) λ(m,u,t,a,f,v,_)=>bif m !=0 then
 Y (.inr (.inr (.inr ((([]:aM),(([]:aM),(([]:aM),(([]:aM),(([]:aM),(([]:aM),((0:Z),()))))))),m,())))) else bB (bz (f.2.2.2.1>=0)) ((bm a.length f.2.2.2.1).bind λn=>(ba a n λz=>Y z).bind λK=>(cI (K.length+([Y v]).length)).bind λ_=>(bm a.length f.2.2.2.1).bind λc=>bB (bL n c&&bt) ((ba a c λA=>Y A).bind λL=>(ba a c λ_=>Y (a.set c (L++[Y v]))).bind λN=>Y (.inl (u,t,N,()))) bv) (Y (.inl (u,t,a,())))) λg=>match g with
 |.inl (J,H,y,_)=>(Y (.inl (aO d,J,H,y,())))
 |.inr h=>Y h) else Y (.inr (.inl (k,j,())))) (0,([],([],([],([],([],([],((0:Z),()))))))),(i,(([]:aM),(([]:aM),(([]:aM),(([]:bp eO),((0:Z),())))))),bJ D [],())).bind λg=>match g with
 |.inl (_,I,_)=>((Ei (Y I,o,())).bind λ(G,_)=>Y (G,0,()))
 |.inr h=>Y h))
def EJ:bw->bA jH:=λ_=>(Ow ()).bind λ(b,_)=>(m1 (b,[0,1],[(0,(2,([0,1],((-1:Z),()))))],())).bind λ(a,c,_)=>(D6 (a,())).bind λ(aU,d,_)=>(bB ((c==0)==bt) (bB ((d==0)==bt) ((rN (a.2.1,[2],())).bind λ(e,_)=>bB (e==bt) (Y (((aU.1==1)&&((aU.2.1==(0:Z))&&((aU.2.2.1==1)&&bt))),())) (Y (br,()))) (Y (br,()))) (Y (br,())))
def tk:(bA (bp (Z×cP)×X)×bA (bp (Z×cP)×X)×cP×ak1×fP×bw)->bA (fP×bw):=λ(g,h,l,e,o,_)=>e.bind λA=>(loop (σ:=(Z×fP×bw)) (ρ:=(fP×bw)) (λ(c,k,_)=>bif bz (c<A) then e.bind λB=>(loop (σ:=(Z×fP×bw)) (ρ:=(fP×bw)) (λ(a,f,_)=>bif bz (a<B) then bE (α:=(fP×bw)) (bE (α:=(bD×fP×cP×cP×bw)) (bB ((hk (α:=cP) g c).isSome==bt) (Y ((hk (α:=cP) h a).isSome,f,((hk (α:=cP) g c).getD (br,((br,(([]:ak7),())),((0:Z),())))),((hk (α:=cP) h a).getD (br,((br,(([]:ak7),())),((0:Z),())))),())) (Y (br,f,((hk (α:=cP) g c).getD (br,((br,(([]:ak7),())),((0:Z),())))),((hk (α:=cP) h a).getD (br,((br,(([]:ak7),())),((0:Z),())))),()))) λ(q,b,u,v,_)=>bif q then e.bind λy=>e.bind λz=>(bm b.length (az (az (a*z)+c))).bind λi=>(m0 (u,l,())).bind λ(p,_)=>
 (m0 (p,v,())).bind λ(j,_)=>(ba b i λm=>Y m).bind λw=>(cI (w.length+([j]).length)).bind λ_=>(bm b.length (az (az (a*y)+c))).bind λd=>bB (bL i d&&bt) ((ba b d λn=>Y n).bind λx=>(ba b d λ_=>Y (b.set d (x++[j]))).bind λC=>Y (C,())) bv else Y (b,())) λ(r,_)=>Y (.inl (aO a,r,())) else Y (.inr (f,()))) (0,k,())).bind λ(s,_)=>Y (.inl (aO c,s,())) else Y (.inr (k,()))) (0,o,())).bind λ(t,_)=>Y (t,())
def AG:(c3×bw)->bA (hf×Z×bw):=λ(a,_)=>(rM (a,())).bind λ(n,_)=>(bif n !=0 then Y (((0:Z),((0:Z),(([]:fg),()))),n,()) else bif bz (ar a.1>64) then Y (((0:Z),((0:Z),(([]:fg),()))),6,()) else(fS (az (ar a.1*ar a.1)) (az (ar a.1*ar a.1))).bind λy=>(AM (a,())).bind λ(o,_,_)=>(x7 (a,())).bind λ(p,_)=>(loop (σ:=(Z×hf×Z×fP×fP×bw)) (ρ:=(hf×Z×fP×bw)) (λ(d,i,b,t,j,_)=>bif bz (d<ar p) then bE (α:=(hf×Z×fP×fP×bw)) (rd j d λe=>(aq o d).bind λF=>(x9 (a,F,())).bind λ(f,_)=>(aq e 0).bind λG=>(tk (f,f,G,Y b,t,())).bind λ(k,_)=>bif ar e==3 then(aq o d).bind λH=>(x9 (a,aO H,())).bind λ(g,_)=>(aq e 1).bind λI=>(tk (f,g,I,Y b,k,())).bind λ(v,_)=>(aq e 1).bind λJ=>
 (tk (g,f,J,Y b,v,())).bind λ(w,_)=>(aq e 2).bind λK=>(tk (g,g,K,Y b,w,())).bind λ(x,_)=>Y (i,b,x,j,()) else Y (i,b,k,j,())) λ(B,z,E,C,_)=>Y (.inl (aO d,B,z,E,C,())) else Y (.inr (i,b,t,()))) (0,((0:Z),((0:Z),([],()))),ar a.1,bJ y [],p,())).bind λ(D,l,r,_)=>(loop (σ:=(Z×hf×fP×hf×bw)) (ρ:=(hf×hf×bw)) (λ(h,q,s,c,_)=>bB (bz (h<ar r)) (rd s h λu=>(DL (u,())).bind λ(m,_)=>(cI ((c.2.2.1).length+([m]).length)).bind λ_=>Y (.inl (aO h,q,s,(c.1,(c.2.1,((c.2.2.1++[m]),c.2.2.2))),()))) (Y (.inr (q,c,())))) (0,D,r,(l,(l,(([]:fg),()))),())).bind λ(_,A,_)=>Y (A,0,()))
def vy:(ny×c3×bw)->bA (cP×Z×bw):=λ(j,c,_)=>(rM (c,())).bind λ(h,_)=>(bif h !=0 then Y ((br,((br,(([]:ak7),())),((0:Z),()))),h,()) else(vq (j,c.1,())).bind λ(aU,i,_)=>bif i !=0 then Y ((br,((br,(([]:ak7),())),((0:Z),()))),i,()) else(AG (c,())).bind λ(q,_,_)=>(pE (0,())).bind λ(r,_)=>(loop (σ:=(Z×cP×hf×hf×cP×bw)) (ρ:=(cP×cP×bw)) (λ(a,f,b,e,d,_)=>bB (bz (a<ar aU.2.2.1)) (bE (α:=(cP×hf×hf×cP×bw)) ((aq b.2.2.1 a).bind λt=>(aq e.2.2.1 a).bind λu=>(vv (t,u,())).bind λ(o,_)=>(DG (o,())).bind λ(g,_)=>(xX (g,d,())).bind λ(p,_,_)=>bB (bz (p>0)) (Y (f,b,e,g,())) (Y (f,b,e,d,()))) λ(s,k,n,l,_)=>Y (.inl (aO a,s,k,n,l,()))) (Y (.inr (f,d,())))) (0,(br,((br,(([]:ak7),())),((0:Z),()))),aU,q,r,())).bind λ(_,m,_)=>
 Y (m,0,()))
def IZ:(aM×Z×Z×Z×Z×bw)->bA jH:=λ(e,w,g,h,f,_)=>(qC (w,4,())).bind λ(t,_)=>(qC (g,4,())).bind λ(u,_)=>(tp (e,t,u,f,())).bind λ(a,_)=>(EK (e,h,f,bt,())).bind λ(v,b,c,_)=>(m1 (a,b,c,())).bind λ(i,j,_)=>(nF (a,b,c,())).bind λ(k,l,_)=>(nF (v,b,c,())).bind λ(d,_,_)=>(vy (a,d,())).bind λ(m,n,_)=>(vN (a,d,())).bind λ(o,p,_)=>(bB ((j==l)==bt) ((EH (i,k,())).bind λ(q,_)=>bB (q==bt) (bB ((n==p)==bt) ((yg (m,o,())).bind λ(r,_)=>bB (r==bt) ((EJ ()).bind λ(s,_)=>Y (s,())) (Y (br,()))) (Y (br,()))) (Y (br,()))) (Y (br,())))
end Go.l0
section
namespace Go.Proofs
open Go.RowKit Go.Shelf Go.Sort
attribute [local go_sem] Oper.semAt_some
def Tryz.Zv:Go.Shelf.Ren:=⟨λ|20=>295|n=>n,λ|22=>23|3=>3|4=>4|0=>0|n=>n,λ|n=>n⟩
def Tryz.P0:Lays2.n20 cr Tryz.Zv where
 mixed:=by kernel_rfl
 f20:=Tryz.func295.trans (b4 Y (by kernel_rfl))
 t0:=Tryz.underlying0
 a0:=Tryz.isAgg0
 z0:=Tryz.sizeOf0
 v0:=Tryz.zeroValue0
 t3:=Tryz.underlying3
 a3:=Tryz.isAgg3
 z3:=Tryz.sizeOf3
 v3:=Tryz.zeroValue3
 t4:=Tryz.underlying4
 a4:=Tryz.isAgg4
 z4:=Tryz.sizeOf4
 v4:=Tryz.zeroValue4
 t22:=apK
 a22:=Tryz.isAgg23
 z22:=Tryz.sizeOf23
 v22:=Tryz.zeroValue23
 i3:=by kernel_rfl
namespace M7
def nj {a:Type} (b:X->a) (c:X):bp a:=(bK c).map b
def Ui {c:Type} (a:X->c) (b:X):nj a (b+1)=nj a b++[a b]:=by simp[nj,je]
def agV {c:Type} (b:X->c) (a:X):(nj b a).length=a:=by simp[nj]
def agU (a:ak7):nj (λc=>a[c]?.getD 0) a.length=a:=by
 apply xi
 ·simp[nj]
 intro e d b;simp[nj,b]
set_option maxRecDepth 100000 in
set_option maxHeartbeats 2000000 in
def ag4 (j:ama) (m:X) (A:j.fn 317) (K:j.round=bv) (T:1<=m) (v q n h k b x:X) (g:ak7) (U:b*8<=140737488351232) (F:h<n) (J r:ak7->bH->Prop) (E:∀e o c,J e c->e.length<b->YieldAt j (m-1) cr v #[.int .i64 o] c λi f=>
  (i=.returned (.bool bt)/\J (e++[o]) f/\Below n c f)\/(i=.returned (.bool br)/\r (e++[o]) f))
 (c:bH) (Q:c.cell? ⟨q,0,bv⟩=Y (.slice (Y ⟨h,k,bv⟩) b x)) (G:∀d,d<b->c.cell? ⟨h,k+d,bv⟩=Y (.int .i64 (g[d]?.getD 0))) (z:J [] c):
 al3 j m cr 317 #[.func (.yield v) #[] #[],.pointer (Y ⟨q,0,bv⟩)] c λi f=>(∃L,i=.returned L)/\((∃w,w=nj (λd=>g[d]?.getD 0) b/\J w f)\/(∃e,(∃a,a<=b/\e=nj (λd=>g[d]?.getD 0) a)/\r e f)):=by
 refine amL aoQ bq A ?_ K;simp only[apL,uW,ju,po,amr,ams,w8,w9,xn,xh,iD,oB]
 gi_wp2
 gi_loopw [7] (λl wr=>∃a:X,a<=b/\l=.int .i64 a/\J (nj (λd=>g[d]?.getD 0) a) wr/\Below n c wr) (λl _=>b-(intOf l).toNat)
 case atStart=>exact⟨0,dj _,bq,z,am7 _ _⟩
 case round=>
  obtain⟨a,S,rfl,s,u⟩:=hrel;have H:a<b->wr.cell? ⟨h,k+a,bv⟩=Y (.int .i64 (g[a]?.getD 0)):=λy=>(u.cell (p:=⟨h,k+a,bv⟩) F).trans (G a y);by_cases t:a<b
  ·obtain⟨P,ad,N,O,V,D⟩:=E _ (g[a]?.getD 0) wr s (by rw[agV];exact t);have R:=H t
   gi_wp2
   refine D.mono ?_;rintro i M (⟨rfl,B,I⟩|⟨rfl,C⟩)
   ·gi_wp2
    go_roundw
    case rel=>exact⟨a+1,aa,ac,by rw[Ui];exact B,u.trans I⟩
    case measure=>simp[intOf];omega
   gi_wp2
   refine bodyPost_ret (results_none bq _ _ _) rfl ?_;exact⟨⟨_,bq⟩,.inr ⟨_,⟨a+1,aa,(Ui _ _).symm⟩,C⟩⟩
  obtain rfl:a=b:=by omega
  gi_wp2
  go_end0
  exact⟨⟨_,bq⟩,.inl ⟨_,bq,s⟩⟩
def agW (a:ak7) {b:X} (d:b<=a.length):nj (λf=>a[f]?.getD 0) b=a.take b:=by
 apply xi
 ·simp[nj,d]
 intro e c g;have:e<a.length:=(by simp[nj] at c;omega);simp[nj,this]
def p8 (i:X) (g:bH) (f:Value) (a:ak7):Prop:=
 (∃h c,f=.slice h 0 c/\a=[])\/∃b e c,f=.slice (Y ⟨b,e,bv⟩) a.length c/\b<i/\∀d,d<a.length->g.cell? ⟨b,e+d,bv⟩=Y (.int .i64 (a[d]?.getD 0))
def p8.below {b:X} {c d:bH} (l:Below b c d) {i:Value} {j:ak7}:p8 b c i j->p8 b d i j
 |.inl a=>.inl a
 |.inr ⟨e,h,k,a,f,m⟩=>.inr ⟨e,h,k,a,f,λg n=>(l.cell (p:=⟨e,h+g,bv⟩) f).trans (m g n)⟩
set_option maxRecDepth 100000 in
set_option maxHeartbeats 1000000 in
def ag5 (a:ama) (n:X) (i:a.fn 317) (k:a.round=bv) (m c:X) (e:bA Addr) (f:X) (J:ak7->bH->Prop) (b:bH) (p:b.cell? ⟨c,0,bv⟩=Y (.slice e 0 f)) (h:J [] b):al3 a n cr 317 #[.func (.yield m) #[] #[],.pointer (Y ⟨c,0,bv⟩)] b λg d=>(∃o,g=.returned o)/\J [] d:=by
 refine amL aoQ bq i ?_ k;simp only[apL,uW,ju,po,amr,ams,w8,w9,xn,xh,iD,oB]
 gi_wp2
 gi_loopw [7] (λl wr=>l=.int .i64 0/\J [] wr) (λ_ _=>0)
 case atStart=>exact⟨bq,h⟩
 case round=>
  obtain⟨rfl,j⟩:=hrel
  gi_wp2
  go_end0
  exact⟨⟨_,bq⟩,j⟩
set_option maxHeartbeats 1000000 in
def ag6 (a:ama) (i:X) (g:a.fn 297) (h:a.round=bv) (c:bA Addr) (e d:X) (b:bH):al3 a i cr 297 #[.slice c e d] b λf j=>f=.returned (.func (.func 317) #[] #[.pointer (Y ⟨b.heap.size,0,bv⟩)])/\j=b.alloc (.cells #[.slice c e d] 23):=by
 refine amL Tryz.func297 bq g ?_ h;simp only[Tryz.ntmps297,uW,ju,po,amr,ams,w8,w9,xn,xh,iD,oB]
 gi_wp2
 go_ret
 exact⟨bq,bq⟩
def ag7 (c:ama) (g:X) (l:c.fn 317) (o:c.round=bv) (G:1<=g) (b h:X) (s:Value) (a:ak7) (I:a.length*8<=140737488351232) (e:bH) (z:b<e.heap.size) (H:h<=e.heap.size) (D:e.cell? ⟨b,0,bv⟩=Y s) (A:p8 h e s a):SeqStopsK c g cr 317 #[.pointer (Y ⟨b,0,bv⟩)] (λL:Z=>#[alz .i64 L]) (Below h) (λt=>t=a) (λr=>r<+:a) a.length e:=λq J u j m _ _ B k=>by
 have n:=(m.cell (p:=⟨b,0,bv⟩) z).trans D;rcases A.below (m.mono H) with⟨w,i,rfl,rfl⟩|⟨x,K,i,rfl,C,E⟩
 ·exact(ag5 c g l o q b w i J j n k).mono λy v ⟨f,d⟩=>⟨f,.inl ⟨_,bq,d⟩⟩
 refine(ag4 c g l o G q b h x K a.length i a I C J u B j n E k).mono ?_;rintro y v ⟨f,⟨t,rfl,d⟩|⟨r,⟨M,F,rfl⟩,d⟩⟩
 ·exact⟨f,.inl ⟨_,agU a,d⟩⟩
 exact⟨f,.inr ⟨_,by rw[agW a F];exact List.take_prefix _ _,d⟩⟩
def YX:(cr.info? 3).map (λa=>(a.zero,a.size,a.bytes))=Y (Y (.int .i64 0),1,8):=by kernel_rfl
set_option maxRecDepth 100000 in
set_option maxHeartbeats 2000000 in
def V0 (g:ama) (m:X) (E:g.fn 331) (u:g.fn 317) (q:g.round=bv) (a4:3<=m) (e:X) (r:Value) (f:ak7) (M:f.length*8<=140737488351232) (a:bH) (F:e<a.heap.size) (o:a.cell? ⟨e,0,bv⟩=Y r) (H:p8 a.heap.size a r f):al3 g m cr 331 #[.slice bv 0 0,.func (.func 317) #[] #[.pointer (Y ⟨e,0,bv⟩)]] a λB t=>∃b,B=.returned b/\t.ownsRow a.heap.size 3 1 b f.length (f.map (alz .i64))/\(b=.slice bv 0 0↔f=[])/\Below a.heap.size a t:=by
 have D:1<=m:=aa;obtain⟨S,J,P,Q,R⟩:=info_parts YX;refine callsIn_of_wp_marks Tryz.func331 bq E ?_ q;simp only[Tryz.ntmps331,uW,ju,po,amr,ams,w8,w9,xn,xh,iD,oB]
 gi_wp2
 have A:=apM a 23 (.slice bv 0 0);have n:Below a.heap.size a (a.alloc (.cells #[.slice bv 0 0] 23)):=(am7 _ a).alloc (bg _) _;refine wpIn_rangeFunc_ownG q D (gf:=317) (lb:=#[.pointer (Y ⟨e,0,bv⟩)]) rfl u (enters_of aoQ (by kernel_rfl) rfl) (ag7 g (m-1) u q aa e a.heap.size r f M _ (by simp;omega) ac ((n.cell (p:=⟨e,0,bv⟩) F).trans o) (H.below n)) belowK_t (belowK_b ac) (am7 _ _) (λ_=>rfl) (λc d=>(∃b,Boxed d a.heap.size 23 b/\d.ownsRow a.heap.size 3 1 b c.length (c.map (alz .i64))/\(b=.slice bv 0 0↔c=[]))/\Below a.heap.size a d) (λ_ _ _=>b7) (OwnFrom.and (Own.from (holdsRow_own a.heap.size a.heap.size 23 3 1 (λc=>c.length) (λc=>c.map (alz .i64)) (λc b=>b=.slice bv 0 0↔c=[])) _) (ownFrom_below (bg _) ac)) (λ_ _ _ _ _ N _ _=>N) ⟨⟨_,A,World.ownsRow_nil _ _ _ _,ac⟩,n⟩ (λj=>{tmps:=#[.slice bv 0 0,.func (.func 317) #[] #[.pointer (Y ⟨e,0,bv⟩)],.pointer (Y ⟨a.heap.size,0,bv⟩),bZ,.slice bv 0 0,.int .i64 j,.func (.func 317) #[] #[.pointer (Y ⟨e,0,bv⟩)],.int .i64 j,bZ,bZ,bZ,bZ,bZ],defers:=[]}) ?assign ?body ?done ?stop
 case assign=>
  intro T j d U i
  gi_wp2
  exact i
 case body=>
  rintro T c j d ⟨⟨b,l,k,x⟩,h⟩ a3;have o:=l.cell;have a0:f.length<=maxLen:=(by simp only[maxLen];omega);have an:f.length*8<=140737488355328:=by omega
  gi_wp2_with (gi_at_builtin;refine wpListIn_append_own _ rfl _ _ 23 bq a.heap.size 3 S (.int .i64 0) 1 8 apK J P Q R bq ab _ _ _ rfl (k.alloc _) ⟨d.heap.size,0,bv⟩ 1 1 [.int .i64 j] rfl rfl (cell_one_new _ _ _) (by simp[alw]) aa aa (by have:=h.size;simp;omega) ?_;intro bl bs y I _;obtain⟨am,ad,rfl⟩:=ownsRow_succ y;obtain⟨z,O,L,K,v⟩:=l.appended ab k h.size (bg _) y I;have ap:=z.cell;have av:=z.frozen)
  exact⟨K.from _,v,⟨_,O,by simpa using L,ac⟩,h.trans v⟩
 case done=>
  rintro s bx d G rfl ⟨⟨b,l,k,x⟩,h⟩ i;have o:=l.cell
  gi_wp2
  refine⟨ac,.inl ⟨_,_,bq,run_takeDeferred i,?_⟩⟩;exact⟨_,results_tmp bq _ _ _,b,bq,ownsRow_putObj k _ i bq,x,h.trans (belowK_b (w:=a) (bg _) d s _ _ (by simp at G;omega) i bq rfl)⟩
 case stop=>
  rintro s V c d _ _ C _;exact C.elim
set_option maxHeartbeats 1000000 in
def WS (b:ama) (f:X) (m:b.fn 315) (k:b.fn 331) (l:b.fn 317) (j:b.round=bv) (v:4<=f) (e:X) (g:Value) (c:ak7) (s:c.length*8<=140737488351232) (a:bH) (n:e<a.heap.size) (q:a.cell? ⟨e,0,bv⟩=Y g) (o:p8 a.heap.size a g c):al3 b f cr 315 #[.func (.func 317) #[] #[.pointer (Y ⟨e,0,bv⟩)]] a λi h=>∃d,i=.returned d/\h.ownsRow a.heap.size 3 1 d c.length (c.map (alz .i64))/\(d=.slice bv 0 0↔c=[])/\Below a.heap.size a h:=by
 have u:1<=f:=aa;refine amL Tryz.func315 bq m ?_ j;simp only[Tryz.ntmps315,uW,ju,po,amr,ams,w8,w9,xn,xh,iD,oB]
 gi_wp2_with (gi_at_call 331;refine(V0 b (f-1) k l j aa e g c s _ n q o).mono ?_;rintro i w ⟨d,rfl,t,r,p⟩)
 go_ret
 exact⟨d,bq,t,r,p⟩
open Go.l0
theorem ae9 {M:eW->X->Prop} {f:bH} {k:X} {j:Value} {b:ak7} (s:f.ownsRow k 3 1 j b.length (b.map (alz .i64))):∃d,a5 M f (.osl (.int .i64)) [j] b d/\d.Nodup/\∀h∈d,k<=h/\h<f.heap.size:=by
 rcases s.2 with⟨rfl,t⟩|⟨e,l,i,rfl,w,q,u,A,v,m⟩
 ·obtain rfl:=rk t;exact⟨[],⟨bv,0,bq,.inl ⟨bq,bq,bq,bq⟩⟩,ac,ac⟩
 rw[amE] at v m;have o:∀a,a<l->f.cell? ⟨e,a,bv⟩=Y (i[a]?.getD bZ)/\f.frozen? ⟨e,a,bv⟩=br:=λa c=>(by constructor<;>simp[aml,World.frozen?,q,(aa:a<i.size)]);refine⟨[e],⟨Y ⟨e,0,bv⟩,l,bq,.inr ⟨e,0,bJ b.length [],bq,ac,ac,u,λa _ c=>?_,λg z d r p=>?_⟩⟩,ac,λh n=>?_⟩
 ·obtain⟨aE,y⟩:=o a (by simpa[alA] using c);exact⟨by rw[aE];rfl,y⟩
 ·have x:g<b.length:=(ih.1 r).1;obtain rfl:d=[]:=by
   rw[List.getElem?_replicate] at p;split at p<;>simp_all
  refine⟨[.int .i64 z],bq,λa j c=>?_,bq,bq⟩;cases a with
  |succ a=>simp at c
  |zero=>
   simp only[zP,fc] at c;subst c;simp only[alA,amE,nv,nu];rw[(o g aa).1];have:(i.toList.take b.length)[g]?=(b.map (alz .i64))[g]?:=(by rw[m]);rw[sK x,CU,jQ,r] at this;rw[this];rfl
 simp only[fH] at n;subst n;exact⟨w,(CT.1 q).1⟩
def YP {o:eW->X->Prop} {n:bH} {i:Value} {a:ak7} {k:ak6} (g:a5 o n (.osl (.int .i64)) [i] a k):(∃j b,i=.slice j 0 b/\a=[])\/∃c e b,i=.slice (Y ⟨c,e,bv⟩) a.length b/\a.length<=b/\Holds (alz .i64) n c e a.toArray/\k=[c]:=by
 obtain⟨j,b,m,g⟩:=g;simp only[iC,cf] at m;subst m;rcases g with⟨rfl,rfl,rfl,rfl⟩|⟨c,e,f,rfl,rfl,A,s,t,l⟩
 ·exact .inl ⟨bv,0,bq,bq⟩
 right;have u:f.flatten=[]:=by
  rw[List.flatten_eq_nil_iff];intro C x;obtain⟨h,B,rfl⟩:=hV.1 x;obtain⟨r,_,_,y⟩:=l h (a[h]'(by omega)) f[h] ac ac
  exact y.1
 refine⟨c,e,b,bq,s,λd v=>?_,by rw[u]⟩;have w:d<a.length:=(by simpa using v);obtain⟨r,z,p,_,q⟩:=l d a[d] (f[d]'(by omega)) ac ac
 subst q;have aE:=p 0 _ rfl;simp only[alA,amE,nu] at aE;exact⟨by rw[aE];simp[w],(t (e+d) aa (by simp only[alA];omega)).2⟩
def HN (E:fY) (c:ak7->ez):Prop:=∀b a,c b=Y a->uI E 316 [.m ⟨.osl (.int .i64),b⟩ a] []
set_option maxRecDepth 100000 in
set_option maxHeartbeats 2000000 in
def af3 (i:ama) (h:∀e,i.fn e) (z:i.round=bv) (N:∀(an:X) (e:FuncId) (v:akY) (c:bH) (t:Ending->bH->Prop),Calls cr e v c t->al3 i an cr e v c t) {E:fY} (H:E.P=cr) {B:ak7->ez} (ad:HN E B) (k:X) (a4:5<=k) (m:X) (r:Value) (l s:ak7) (am:B l=Y s) (U:l.length*8<=140737488351232) (c:bH) (I:mj E (λb=>b<c.heap.size) c) (G:m<c.heap.size) (L:c.cell? ⟨m,0,bv⟩=Y r) (J:p8 c.heap.size c r l):al3 i k cr 296 #[.func (.func 317) #[] #[.pointer (Y ⟨m,0,bv⟩)]] c λp u=>∃g e C,p=.returned g/\a5 C u (.osl (.int .i64)) [g] s e/\(∀b∈e,c.heap.size<=b)/\Below c.heap.size c u:=by
 have a3:1<=k:=aa;have bl:=h 315;have bs:=h 316;refine amL Tryz.func296 bq (h _) ?_ z;simp only[Tryz.ntmps296,uW,ju,po,amr,ams,w8,w9,xn,xh,iD,oB]
 gi_wp2_with (first
  |(
   gi_at_call 315;refine(WS i (k-1) (h _) (h _) (h _) z aa m r l U _ G L J).mono ?_;rintro p D ⟨g,rfl,A,S,d⟩
   obtain⟨e,T,R,o⟩:=ae9 (M:=cG (λ_=>b7) (λ_=>b7)) A;have n:=ad l s am D (λb=>b<c.heap.size) (λ_=>b7) [g] [e] (λb a=>by rcases a with a|a;exact jG a d.size;exact a.elim) ⟨⟨[g],bq,T⟩,trivial⟩ (by simpa using R) (λb d=>⟨Nat.not_lt.2 (o b (by simpa using d)).1,λa=>a,(o b (by simpa using d)).2⟩) True.intro (I.mono (λ_ a=>a) λb a=>d.block b a);rw[H] at n;have n:=N (k-1) _ _ _ _ n;clear A S)
  |(gi_at_call 316;refine n.mono ?_;rintro p av ⟨ap,w,bx,cT,rfl,f⟩))
 have O:∃j,w=[j]:=by
  have:=f.args
  match w,this with
  |[j],_=>exact⟨j,bq⟩
  |[],a=>exact a.elim
  |_::_::_,a=>exact a.2.elim
 obtain⟨j,rfl⟩:=O;obtain⟨a0,ax,y⟩:=f.args.1;have Q:=y.len;obtain⟨F,rfl⟩:=rn.1 Q;have ax:g=F:=ax;subst ax;have V:cT=[]:=by
  have:=f.res
  match cT,this with
  |[],_=>rfl
  |_::_,a=>exact a.elim
 subst V
 go_ret
 refine⟨g,j,_,bq,y,λb K=>?_,?_⟩
 ·have:=(f.NM b (by simp[K])).2.2.2;rcases this with a|a
  ·exact dk d.size a
  exact(o b (by simpa using a)).1
 exact⟨f.os.trans d.os,f.tape.trans d.tape,f.output.trans d.output,dk d.size f.size,λq x=>(f.heap q (jG x d.size) (λa=>by have:=(o q (by simpa using a)).1;omega)).trans (d.block q x)⟩
def WZ {j:eW->X->Prop} {b:bH} {B:X} {i:Value} {e:ak7} {h:ak6} (n:a5 j b (.osl (.int .i64)) [i] e h) (m:∀c∈h,B<=c) (r:e.length<=1000000):Calls cr 295 #[i] b (λf g=>∃d a,f=.returned (.slice d (al2 e).length a)/\Below B b g):=by
 rcases YP n with⟨d,a,rfl,rfl⟩|⟨c,p,a,rfl,l,k,rfl⟩
 ·refine(Any.slices_Compact_int_empty Tryz.P0 d a b).mono ?_;rintro f g ⟨rfl,rfl⟩;exact⟨d,a,bq,am7 _ _⟩
 refine(Any.slices_Compact_int Tryz.P0 c p a e b k aa l).mono ?_;rintro f g ⟨rfl,s,rfl⟩;refine⟨_,a,bq,bq,bq,bq,by simp[putRow,mapBlock,apN],λo q=>?_⟩;have:=m c ac;simp[putRow,mapBlock,apN,Array.getElem?_modify,(aa:c≠o)]
set_option maxRecDepth 100000 in
set_option maxHeartbeats 2000000 in
def agF (g:ama) (i:∀k,g.fn k) (p:g.round=bv) (t:∀(S:X) (k:FuncId) (r:akY) (a:bH) (q:Ending->bH->Prop),Calls cr k r a q->al3 g S cr k r a q) {E:fY} (F:E.P=cr) {x:ak7->ez} (O:HN E x) (j:X) (av:7<=j) (c:bA Addr) (b e:X) (f m:ak7) (R:x f=Y m) (N:f.length=b) (bl:f.length<=1000000) (Q:m.length<=1000000) (a:bH) (G:mj E (λd=>d<a.heap.size) a) (H:p8 a.heap.size a (.slice c b e) f):al3 g j cr 259 #[.slice c b e] a λh z=>h=.returned (.bool (bz ((al2 m).length<f.length)))/\Below a.heap.size a z:=by
 have ap:1<=j:=aa;have a0:=i 297;have a3:=i 296;have a4:=i 295;generalize M:(al2 m).length=an;refine amL Tryz.func259 bq (i _) ?_ p;simp only[Tryz.ntmps259,uW,ju,po,amr,ams,w8,w9,xn,xh,iD,oB];have C:=apM a 23 (.slice c b e);have n:Below a.heap.size a (a.alloc (.cells #[.slice c b e] 23)):=(am7 _ a).alloc (bg _) _;have I:p8 (a.alloc (.cells #[.slice c b e] 23)).heap.size (a.alloc (.cells #[.slice c b e] 23)) (.slice c b e) f:=by
  rcases H.below n with l|⟨d,T,D,h,o,L⟩
  ·exact .inl l
  exact .inr ⟨d,T,D,h,by simp;omega,L⟩
 have w:=af3 g i p t F O (j-1) aa a.heap.size (.slice c b e) f m R aa _ (G.mono (λd (l:d<a.heap.size)=>jG l n.size) λd l=>n.block d l) ac C.cell I
 gi_wp2_with (first
  |(gi_at_call 297;refine(ag6 g (j-1) (i _) p c b e a).mono ?_;rintro h bx ⟨rfl,rfl⟩)
  |(gi_at_call 296;refine w.mono ?_;rintro h y ⟨bs,k,U,rfl,v,u,o⟩;have s:=t (j-1) _ _ _ _ (WZ (B:=a.heap.size) v (λd J=>by have:=u d J;simp at this;omega) Q);rw[M] at s;have A:Below a.heap.size a y:=n.trans (o.mono ac);clear v u o w)
  |(gi_at_call 295;refine s.mono ?_;rintro h V ⟨ad,am,rfl,K⟩))
 go_ret
 exact⟨by rw[N];rfl,A.trans K⟩
def agC (c:ak7->ez):jP:=⟨259,[.v (.bb .dm (.int .i64))],[.bool],λa=>(CH c a.1).map λb=>(b,())⟩
def agD {E:fY} (q:E.P=cr) {sort:ak7->ez} (K:HN E sort):aG E (agC sort):=by
 refine⟨λg f=>by rw[q];exact Tryz.call259 g f,?_⟩;rintro⟨d,_⟩ b c;have w:(CH sort d).map (λb=>(b,()))=Y b:=c;obtain⟨B,e,rfl⟩:=fO.1 w;clear c w;unfold CH at e;cases l:b5 d.length 1000000 with
 |false=>rw[l] at e;cases e
 |true=>
 rw[l] at e;obtain⟨s,M,e⟩:=fh.1 e;cases m:b5 s.length 1000000 with
 |false=>rw[m] at e;cases e
 |true=>
 rw[m] at e;have c:bz ((al2 s).length<d.length)=B:=gy e;subst c;have l:=g8 l;have m:=g8 m;rintro f t A g k u h an am _hself;have h:mZ (zC t A f) [.v ⟨.bb .dm (.int .i64),d⟩] g k:=h;obtain⟨p,j,rfl,rfl⟩:∃p j,g=[p]/\k=[j]:=by
  cases g with
  |nil=>exact h.elim
  |cons p g=>
   cases k with
   |nil=>exact h.elim
   |cons j k=>
    have a:=h.2;cases g with
    |nil=>cases k with
     |nil=>exact⟨p,j,bq,bq⟩
     |cons=>exact a.elim
    |cons=>exact a.elim
 obtain⟨⟨rfl,S,rfl,J⟩,_⟩:=h;obtain⟨_,o,i,rfl,ad,ap,I⟩:=J;have G:p8 f.heap.size f (.slice o d.length i) d:=by
  rcases I with a|⟨b,O,rfl,H,L⟩
  ·exact .inl ⟨o,i,by rw[show d=[] from a];rfl,a⟩
  refine .inr ⟨b,O,i,bq,u b H,λy x=>?_⟩;obtain⟨U,T,C,_,D⟩:=L y d[y] (by simp[x]);subst D;have z:=C 0 _ rfl;simp only[alA,amE,nu] at z;rw[z];simp[x]
 intro F;have a:=agF Fence.wide (λ_=>trivial) rfl (λN j R f Q a=>(callsIn_wide (n:=N)).2 a) q K 10 aa o d.length i d s M bq l m f (F.mono (λb a=>u b (.inl a)) λ_ _=>rfl) G;have a:=callsIn_wide.1 a;show Calls E.P 259 #[.slice o d.length i] f _;rw[q];refine a.mono ?_;rintro V av ⟨rfl,c⟩;refine⟨t,[[]],[[]],[.bool _],bq,⟨⟨bq,trivial⟩,⟨⟨[.bool _],bq,bq,bq⟩,trivial⟩,ac,ac,λ_ a=>a,λ_ a=>.inl a,c.size,c.os,c.tape,c.output,λb r=>.of_heap (c.block b r),λb r _=>c.block b r⟩⟩
end M7
end Go.Proofs
end
namespace Go.l0
variable{a:ak7}{b:X}{c:Type}{d:Value}{e:eW->X->Prop}{f:bH}
section
open Go.Proofs
open Tryz
abbrev gv:ao:=(.int .u32)
abbrev fW:ao:=(.bb .bo gv)
abbrev c7:ao:=(.st (.pr .bool (.pr fW .nil)))
abbrev aH:ao:=(.int .i64)
abbrev cJ:ao:=(.st (.pr .bool (.pr c7 (.pr aH .nil))))
abbrev g9:ao:=(.osl aH)
abbrev da:ao:=(.int .u64)
abbrev xx:ao:=(.st (.pr aH (.pr aH (.pr g9 (.pr g9 (.pr (.osl da) .nil))))))
abbrev g1:ao:=(.bb .bo aH)
abbrev eZ:ao:=(.bb .dm aH)
abbrev kt:ao:=(.bb .dm da)
abbrev i4:ao:=(.st (.pr aH (.pr aH (.pr eZ (.pr eZ (.pr kt .nil))))))
abbrev mu:ao:=(.st (.pr eZ (.pr eZ (.pr kt (.pr eZ (.pr eZ (.pr kt (.pr aH .nil))))))))
abbrev oM:ao:=(.st (.pr (.bb .bo g1) .nil))
abbrev xA:ao:=(.st (.pr aH (.pr oM (.pr (.bb .bo (.fm .bo cJ)) .nil))))
abbrev mY:ao:=(.st (.pr g1 (.pr (.bb .bo da) .nil)))
abbrev Di:ao:=(.st (.pr (.ptr .bo xA) (.pr g9 (.pr g9 (.pr (.osl da) (.pr (.osl mY) (.pr aH .nil)))))))
abbrev z2:ao:=(.st (.pr g1 (.pr g1 (.pr (.bb .bo da) (.pr g1 (.pr g1 (.pr (.bb .bo da) (.pr aH .nil))))))))
abbrev rA:ao:=(.osl cJ)
abbrev oO:ao:=(.osl rA)
abbrev rx:ao:=(.pr oO .nil)
abbrev oK:ao:=(.st (.pr aH (.pr aH (.pr rA .nil))))
abbrev HO:ao:=(.st (.pr g9 (.pr g9 (.pr (.osl da) (.pr g9 (.pr g9 (.pr (.osl da) (.pr aH .nil))))))))
abbrev oL:ao:=(.st (.pr aH (.pr aH (.pr da .nil))))
abbrev z1:ao:=(.osl .bool)
abbrev sS:ao:=(.optr (.st (.pr g9 (.pr aH (.pr z1 rx)))))
abbrev pz:ao:=(.st (.pr aH (.pr aH (.pr eZ (.pr aH .nil)))))
abbrev k5:ao:=(.ptr .dm (.st (.pr eZ (.pr aH (.pr (.bb .dm .bool) (.pr (.bb .dm (.bb .dm cJ)) .nil))))))
abbrev HP:ao:=(.st (.pr g9 (.pr (.osl da) (.pr g1 (.pr (.osl (.osl da)) .nil)))))
abbrev HQ:ao:=(.st (.pr g9 (.pr g1 (.pr (.bb .bo da) (.pr g9 (.pr g9 (.pr (.osl da) (.pr aH .nil))))))))
abbrev u7:ao:=(.st (.pr aH (.pr aH (.pr g1 (.pr g1 (.pr (.bb .bo da) .nil))))))
abbrev Vt:ao:=(.optr (.st (.pr g1 (.pr aH rx))))
abbrev l5:ao:=(.st (.pr (.bb .dm eZ) .nil))
abbrev sT:ao:=(.st (.pr c7 (.pr c7 .nil)))
abbrev Dc:ao:=(.st (.pr aH (.pr aH (.pr aH .nil))))
abbrev HR:ao:=(.osl (.st (.pr aH (.pr aH (.pr g9 (.pr aH .nil))))))
abbrev Vu:ao:=(.optr (.st (.pr g9 (.pr aH rx))))
abbrev ry:ao:=(.st (.pr eZ (.pr aH (.pr (.bb .dm (.bb .dm cJ)) .nil))))
abbrev xy:ao:=(.osl z1)
abbrev xz:ao:=(.st (.pr g9 (.pr (.osl da) .nil)))
abbrev nU:ao:=(.bb .bo cJ)
abbrev l6:ao:=(.osl gv)
abbrev HS:ao:=(.st (.pr g1 (.pr (.bb .bo da) (.pr g1 (.pr (.bb .bo (.bb .bo da)) .nil)))))
abbrev Vv:ao:=(.optr cJ)
abbrev rz:ao:=(.st (.pr .bool (.pr c7 (.pr aH (.pr .bool .nil)))))
abbrev HT:ao:=(.st (.pr aH (.pr aH (.pr nU .nil))))
abbrev Dd:ao:=(.ptr .bo (.st (.pr g1 (.pr aH (.pr (.bb .bo .bool) (.pr (.bb .bo nU) .nil))))))
abbrev Vw:ao:=(.optr xx)
abbrev Vx:ao:=(.ptr .bo c7)
abbrev De:ao:=(.st (.pr (.osl g1) .nil))
abbrev Vy:ao:=(.optr c7)
abbrev M8:ao:=(.bb .bo (.st (.pr aH (.pr aH (.pr g1 (.pr aH .nil))))))
abbrev Vz:ao:=(.ptr .bo cJ)
abbrev qo:ao:=(.osl oL)
abbrev VA:ao:=(.optr (.st (.pr aH (.pr oM (.pr (.osl (.mp cJ)) .nil)))))
abbrev HU:ao:=(.st (.pr g1 (.pr aH (.pr (.bb .bo nU) .nil))))
abbrev HV:ao:=(.st (.pr aH (.pr aH (.pr (.bb .dm cJ) .nil))))
abbrev sU:ao:=(.optr oK)
abbrev HW:ao:=(.optr (.st (.pr xy (.pr z1 .nil))))
abbrev VB:ao:=(.osl (.osl sT))
abbrev VC:ao:=(.ptr .bo i4)
abbrev Df:ao:=(.st (.pr eZ (.pr kt (.pr eZ (.pr (.bb .dm kt) .nil)))))
abbrev k6:ao:=(.bb .dm pz)
abbrev VD:ao:=(.optr HO)
abbrev VE:ao:=(.optr Dc)
abbrev Dg:ao:=(.ptr .bo l5)
abbrev VF:ao:=(.optr HP)
abbrev M9:ao:=(.ptr .bo mu)
abbrev Dh:ao:=(.osl nU)
def tt:bp (X×ao):=[(3,aH),(4,.bool),(5,(.int .u8)),(9,.str),(22,(.bb .bo da)),(23,g1),(24,(.bb .bo da)),(26,u7),(27,M8),(31,z2),(41,da),(42,da),(46,Dc),(50,nU),(52,HT),(55,(.bb .bo nU)),(56,fW),(58,c7),(60,cJ),(63,(.bb .bo (.bb .bo c7))),(85,(.bb .bo g1)),(87,oM),(88,(.bb .bo (.fm .bo cJ))),(90,xA),(93,(.st (.pr aH (.pr aH (.pr g1 (.pr aH .nil)))))),(96,(.bb .bo mY)),(98,(.st (.pr (.ptr .bo xA) (.pr g1 (.pr g1 (.pr (.bb .bo da) (.pr (.bb .bo mY) (.pr aH .nil)))))))),(99,(.bb .bo (.bb .bo Dd))),(100,Dd),(103,(.bb .bo Dd)),(107,(.bb .bo HU)),(108,(.bb .bo HS)),(110,HU),(114,(.bb .bo (.bb .bo da))),(116,HS),(127,(.bb .bo (.bb .bo .bool))),(129,da),(130,(.bb .bo .bool)),(142,(.bb .bo (.bb .bo sT))),(148,sT),(149,(.bb .bo sT)),(152,(.bb .bo c7)),(158,gv),(163,(.fm .bo cJ)),(182,(.st (.pr g1 (.pr aH (.pr (.bb .bo .bool) (.pr (.bb .bo nU) .nil)))))),(191,mY),(202,(.bb .bo oL)),(205,oL),(234,(.bb .bo (.bb .bo .bool))),(259,(.st (.pr (.bb .bo (.bb .bo .bool)) (.pr (.bb .bo .bool) .nil)))),(288,(.fn 0 .nil)),(321,rz),(323,da)]
def T9:∀a b,ay tt a=Y b->fv cr b a:=Ua (by kernel_rfl)
def E:fY:={P:=cr,tt:=tt,ok:=T9,mix:=by kernel_rfl,glob:=[⟨0,301,.u8,qw⟩],gok:=YC T9 (S:=5) (by kernel_rfl) (by kernel_rfl),eqs:=[46],eqok:=OZ (by kernel_rfl)}
def Ml:bp ao:=[g9,Vv,l6,cJ,c7,Vw,Vy,.bool,rA,Vt,da,Vx,xy,qo,Vz,sS,sU,Vu,oO,VD,VE,z1,VF,VC,HR,VB,xx,Dh,fW,(.optr z2),(.optr De),(.optr xz),(.optr HQ),z2,M9,u7,Dg,(.optr Di),oK,(.optr oM),(.osl da),oM,g1,(.optr u7),Dc,xz,(.optr HT),HT,VA,(.ptr .bo pz),(.optr g9),(.osl HS),M8,(.optr sT),HW,(.optr i4),nU,(.osl HU),(.optr oO),(.osl g1),(.optr g1),(.st (.pr g9 (.pr aH rx))),(.ptr .bo ry),(.osl (.bb .bo c7)),(.ptr .bo sT),sT,De,(.mp cJ),(.ptr .bo rz),mY,(.osl (.osl Dd)),(.st (.pr g1 (.pr aH rx))),HP,(.osl kt),(.ptr .bo HV),oL,(.optr da),(.optr pz),(.ptr .bo aH),(.optr mY),HQ,(.optr ry),HO,(.osl c7),(.osl sT),gv,(.bb .bo oL),(.ptr .bo oL),(.optr aH),aH,pz,rz,(.ptr .bo .nil),(.osl mY),(.bb .bo mY),(.ptr .bo Df),(.bb .bo nU),(.bb .bo (.bb .bo .bool)),(.st (.pr aH (.pr aH (.pr g9 (.pr aH .nil))))),(.bb .bo g1),(.ptr .bo xA),(.osl (.mp cJ)),(.ptr .bo k6),(.st (.pr g9 (.pr aH (.pr z1 rx)))),Di,ry,(.osl (.osl da)),(.bb .bo da)]
def aL {a:Func} {c:bp hW} {f:bp ao} {i:hS c->bA (jo c (mb f))} (j:zZ E) (e:X) (h:E.P.funcs[b]?=Y a) (g:(a.body.isSome&&b5 c.length a.ntmps)=bt:=by kernel_rfl) (l:(a.name=="runtime.NumGoroutine")=br:=by kernel_rfl) (k:∀d,BA ⟨E.tt,j.1,(Ly Ml e).2.1,a.ntmps,kv 0 c++oq (j1 0 c),[],(Ly Ml e).2.2,j1 0 c,[],[],E.glob,E.eqs⟩ ((Ly Ml e).1.ex (a.body.getD .skip)) (a.body.getD .skip) c a.results.toList f d=i d:=by intro d;kernel_rfl):aG E ⟨b,c,f,i⟩:=
 aG.q j _ h (WA h l (by have:=g;simp only[cL] at this;exact this.1)) _ _ g k
def y1:aG E ⟨16,[.v aH,.v aH],[aH],qC⟩:=aL aK 0x60d func16
def Lb:aG E ⟨55,[.v kt,.v aH],[da],vF⟩:=aL (al y1 aK) 0x7a1e9b060d func55
def y2:aG E ⟨28,[.v da],[.bool],pI⟩:=aL aK 0xd func28
def wB:aG E ⟨229,[.v fW],[l6],m2⟩:=aL aK 0x2082c821ab266d7f4b3435b0c101a28f318a51a6c0d func229
def ui:aG E ⟨227,[.v .bool,.v fW],[c7],mB⟩:=aL (al wB aK) 0x1830070321200d func227
def Gt:aG E ⟨156,[.v aH],[c7],tr⟩:=aL (al ui aK) 0xf8130f0123de5733a6c0d func156
def B1:aG E ⟨155,[.v c7],[c7],qE⟩:=aL (al ui aK) 0x10558600d func155
def y5:aG E ⟨77,[],[cJ],tu⟩:=aL aK 0x608 func77
def wb (a:Z):hz:=⟨E.tt,[],[],14,[0]++(kv 0 [.v gv]++oq (j1 0 [.v gv])),[(0,.val gv a)]++[],[],j1 0 [.v gv],[],[],E.glob,E.eqs⟩
noncomputable def tU:Code:=Tryz.f237.body.getD .skip
def wc:bX Oper:=(wN 3 tU).getD #[]
def Kf:mO:=.two .none (.leaf) (.two .none (.two .none (.leaf) (.leaf)) (.leaf))
def F3:mO:=.keep [0] (.two .none (.leaf) (.two .none Kf (.two .none (.leaf) (.leaf))))
def yJ (a:Z):aW:=⟨[(4,.val .bool (a==0)),(3,.val gv a),(2,.val aH 0),(0,.val gv a)],[]⟩
def Ke (a:Z):ca->aW->bA (jo [.v gv] (mb [.int .i64])):=Pb E.tt [.v gv] [.tmp 2] [.int .i64] (a,())
def Zl:tU=.seq (G4 tU) (.seq (G4 (Tn tU)) (.seq (.region 3 wc br) .ret)):=by kernel_rfl
def Zo:wc.size=10:=by kernel_rfl
def Zm (a:Z) (b:ca->aW->bA c) (d:aW->bA c):h8 (wb a) .leaf (G4 tU) ⟨[(0,.val gv a)],[]⟩ c (Cx (λe=>h8 (wb a) Kf (G4 (Tn tU)) e c (Cx d b)) b)=bif a==0 then b .ret ⟨(2,.val aH 32)::(yJ a).g,[]⟩ else d (yJ a):=by kernel_rfl
def Zi (a:Z) (b:aW->bA c):lI (wb a) wc [0,1,2,3,4] (yJ a) b=b ⟨(9,.val gv (ch.wrap (e3 ch a (ch.wrap (0-a))*125613361)))::(8,.val gv (e3 ch a (ch.wrap (0-a))))::(7,.val gv (ch.wrap (0-a)))::(6,.val gv a)::(5,.val gv a)::(yJ a).g,[]⟩:=by kernel_rfl
def Zj (a c d b:Z):lI (wb a) wc [5,6,7,8,9] ⟨(9,.val gv b)::(8,.val gv c)::(7,.val gv d)::(6,.val gv a)::(5,.val gv a)::(yJ a).g,[]⟩ (Ke a .ret)=(eT ch b 27).bind λe=>(aq qw e).bind λf=>Y (bO.wrap f,()):=by kernel_rfl
def Zp (a:Z):Ke a .ret ⟨(2,.val aH 32)::(yJ a).g,[]⟩=Y ((32:Z),()):=by kernel_rfl
def Zn (a:Z) (d:hS [.v gv]) (f g:cA) (b:ca->aW->bA c) (h:d=(a,())):h8 ⟨E.tt,[],[],14,kv 0 [.v gv]++oq (j1 0 [.v gv]),[],[],j1 0 [.v gv],[],[],E.glob,E.eqs⟩ F3 (.seq f (.seq g (.seq (.region 3 wc br) .ret))) ⟨nZ 0 [.v gv] d,n0 0 [.v gv] d⟩ c b=h8 (wb a) .leaf f ⟨[(0,.val gv a)],[]⟩ c (Cx (λe=>h8 (wb a) Kf g e c (Cx (λe=>lI (wb a) wc (bK wc.size) e (b .ret)) b)) b):=by subst h;rfl
def Zk (b:hS [.v gv]):BA ⟨E.tt,[],[],14,kv 0 [.v gv]++oq (j1 0 [.v gv]),[],[],j1 0 [.v gv],[],[],E.glob,E.eqs⟩ F3 tU [.v gv] [.tmp 2] [.int .i64] b=yb b:=by obtain⟨a,⟨⟩⟩:=b;show h8 _ F3 tU _ _ (Ke a)=_;rw[Zl,Zn a _ _ _ _ rfl,Zm,Zo,show bK 10=[0,1,2,3,4]++[5,6,7,8,9] from rfl,JY,Zi,Zj,Zp];exact Eq.refl (bif a==(0:Z) then Y ((32:Z),()) else(eT ch (ch.wrap (e3 ch a (ch.wrap (0-a))*125613361)) 27).bind λc=>(aq qw c).bind λd=>Y (bO.wrap d,()))
def UP:jP:=⟨237,[.v gv],[aH],yb⟩
def Ry:aG E UP:=
 aG.of (fn:=Tryz.f237) (rs:=[.tmp 2]) [] [] [] F3 func237 (by kernel_rfl) (by kernel_rfl) (by kernel_rfl) call237 TZ (by intro a;exact Zk a)
def Rc:aG E ⟨160,[.v c7],[aH],rP⟩:=aL (al Ry (al wB aK)) 0xfff03f421b60061aa16f0a6c0d func160
def B2:aG E ⟨161,[.v c7],[c7],rO⟩:=aL (al ui aK) 0x10558600d func161
def Rx:aG E ⟨233,[.v fW,.v aH],[l6],yi⟩:=aL aK 0x53d01391bde7118d0ac7d3ef9214db060d func233
def K7:aG E ⟨234,[.v fW,.v aH],[l6,.bool],yj⟩:=aL aK 0xae324cae5979e8e0fe3c42bc0032316c0fa33799a98d35177a6226ce541ba6f9a5312616247cec1866b350374658d682429b060d func234
def Rf:aG E ⟨165,[.v c7],[c7],AW⟩:=aL (al ui aK) 0x10558600d func165
def ab3:aG E ⟨230,[.v fW,.v fW],[l6],EP⟩:=aL aK 0x41f880420be0ec3b4b01fad20a17d5a9cdab20ad391bde7118d0ac7d3ef9214db060d func230
def Rw:aG E ⟨231,[.v fW,.v fW],[aH],AX⟩:=aL aK 0x620a429b060d func231
def ab4:aG E ⟨232,[.v fW,.v fW],[l6],AY⟩:=aL aK 0x2bfb002c07ff882a23ead4e6d590569c77118d0ac7d3ef9214db060d func232
def BZ:aG E ⟨153,[.v c7,.v c7],[c7],qD⟩:=aL (al ab4 (al Rw (al ab3 (al wB (al ui aK))))) 0x87eec45f48a50c4d35ea5dbd0327ba273d8d7d9851599a1b93c028393a4a49226da742b0e4b5741c7d1a4425335b38ac9ddf6ec6d73aa14fbcfefe8f838d623e950613abe741d88d1c5709c0f41a3bd5b492627075fd81041753060d func153
def KW:aG E ⟨159,[.v c7,.v c7],[c7],yh⟩:=aL (al Rf (al BZ aK)) 0x5e73c6ad8004bcf2b753060d func159
def B0:aG E ⟨154,[.v c7,.v aH],[c7],nE⟩:=aL (al K7 (al Rx (al ui (al KW (al Gt (al B1 aK)))))) 0x657a928fb28058de5154418953bd06329486eca3a7945218b305d21ce9d76312700b99aa9feb8968fe29e0c2b7cc5630429aa70f4b3f0612bdd729b060d func154
def Rd:aG E ⟨162,[.v c7,.v aH],[c7],yl⟩:=aL (al B0 aK) 0x12a206e95ad94ccb18d26e4798ccc8a34c0d func162
def K8:aG E ⟨238,[.v gv],[aH],ya⟩:=aL aK 0x2b42385dc039ada07d3 func238
def KX:aG E ⟨163,[.v c7],[aH],vG⟩:=aL (al K8 (al wB aK)) 0x1870070758600d func163
def uk:aG E ⟨78,[.v c7,.v aH],[cJ],oV⟩:=aL (al y5 (al KX (al Rd (al B2 (al Rc (al B1 aK)))))) 0x963e283b401bc6a47f500e722ae4a11b67b635a8a6db6db060d func78
def GD:aG E ⟨96,[.v aH],[cJ],tv⟩:=aL (al uk (al Gt aK)) 0x18a00d func96
def qU:aG E ⟨74,[.v cJ],[cJ],lE⟩:=aL (al uk (al y5 aK)) 0xc570600d func74
def si:aG E ⟨72,[.v c7],[aH],mA⟩:=aL (al B1 aK) 0xd func72
def RC:aG E ⟨251,[.v .bool,.v da],[da],rQ⟩:=aL aK 0x60d func251
def ab8:aG E ⟨248,[.v .bool,.v aH],[da],A2⟩:=aL (al RC aK) 0x8a2dc93060d func248
def acB:aG E ⟨288,[.v c7,.v aH],[.bool],AV⟩:=aL (al K7 (al wB aK)) 0x2990006591f2c01c2d628060d func288
def acC:aG E ⟨289,[.v .bool,.v aH,.v .bool,.v aH],[.bool],EW⟩:=aL aK 0xe2860d func289
def ab9:aG E ⟨249,[.v .bool,.v c7,.v aH,.v .bool,.v aH],[c7],ET⟩:=aL (al si (al acC (al acB (al Rd (al Rc (al Gt (al BZ aK))))))) 0x4841b1f4c951b3668961efe0046ea6adac908c330f1e6893f358452583050a227323b3c816a80161d792bca935c86b039431f0d9047b5c98b2fe17e6a536c48e2860d func249
def aca:aG E ⟨250,[.v c7],[aH,.bool],EN⟩:=aL (al B1 aK) 0x6ce369aa2348940f9bc72429b6c0d func250
def Rj:aG E ⟨181,[.v .bool,.v c7,.v aH,.v .bool,.v aH],[da],A3⟩:=aL (al RC (al aca (al ab9 (al ab8 (al KX (al B0 aK)))))) 0x2cd3add023f828516648d1039f3c84d19dcc4db6c48e2860d func181
def Li:aG E ⟨99,[.v cJ,.v aH],[da],ym⟩:=aL (al qU (al si (al Rj (al B2 aK)))) 0x19da5495bdf3e1e25d606f1bd81ea02760dd565cb46a6db060d func99
def ab0:aG E ⟨221,[.v aH,.v aH],[da],EX⟩:=aL (al Li (al GD aK)) 0x60d func221
def abm:aG E ⟨144,[.v da],[da],IV⟩:=aL (al ab0 aK) 0xd func144
def adw:aG E ⟨58,[.v da,.v aH],[da],vE⟩:=aL (al y2 (al y1 (al abm aK))) 0x60d func58
def KZ:aG E ⟨17,[.v kt,.v aH,.v aH,.v aH],[xx],tp⟩:=aL (al adw (al Lb aK)) 0x10e057a81411e7be866cc52f25d6df74f79002f7e5810665d9a801364afb04dd9cca493b5616526035f285796a5e2d5d30229a9e74e8f8805c46276d4157b88b6ecd9611b5df63da49a48cfe5f9be76f12429b0e2860d func17
def abX:aG E ⟨217,[.v kt],[.bool],E0⟩:=aL (al y2 aK) 0x30a5214c0d func217
def BY:aG E ⟨133,[.v i4],[aH],rR⟩:=aL (al abX aK) 0xdd7ff49089a231007afee5752252d7622a0dbbe989d68087900b4c0d func133
def R0:aG E ⟨98,[.v i4,.v aH,.v aH],[da],tz⟩:=aL (al BY aK) 0x137fa01285e44d1e0174c2860d func98
def adA:aG E ⟨79,[.v da],[.bool],EY⟩:=aL aK 0xd func79
def wC:aG E ⟨27,[.v da],[cJ],jJ⟩:=aL (al adA (al uk (al y5 (al y2 aK)))) 0xb408ac93c00cf40f9bcce9b6c0d func27
def Lh:aG E ⟨97,[.v cJ],[cJ],yk⟩:=aL (al uk (al qU (al B2 aK))) 0x2771e6eff1011974c90a38b2ee992d3a3536c0d func97
def RW:aG E ⟨69,[.v (.bb .dm cJ)],[cJ],A1⟩:=aL (al uk (al y5 (al qU (al si (al B0 (al BZ aK)))))) 0x5ef36a8170566dd971c5e3f17348993db00bc7a6c1a048eb9c9a982f70aca57b3c95080ddcf836d5d93ab4ffc6fdddffa3e1d10ac5f809b17b674cba0738ba3964f7a46ce9335ed7b7e9b677c332649519e81694b3490a6c0d func69
def aaN:aG E ⟨100,[.v i4,.v aH,.v aH],[.bool],A5⟩:=aL aK 0x137fa01285e44d1e0174c2860d func100
def adf:aG E ⟨38,[.v kt,.v aH,.v aH],[xx],AR⟩:=aL (al Li (al R0 (al Lh (al GD (al RW (al wC (al KZ (al y1 (al aaN aK))))))))) 0x4ce372c987b2f21ede14ce3467d7e176e19fa372f70820edf0023def0574b749658b4e7610a3217b2c22e8f0feaeaf4690e3b9222f2b490685f125798480478fc44e135908c9f143ab2e1efe1e7e0f395aab11a0adf7fae26f9c541f0655c62508e256a0ac2b87a96df92c35b418f15c81d04cf731d7922bb4d986501359c5f77abda0409b650eef740c43a0158921afa52653b55c830b515e8c62ac37611b5ded3b6255c8cfcdf6be770e1d5ca48536c2860d func38
def abx:aG E ⟨18,[.v kt,.v aH],[g1],AS⟩:=aL (al Lb (al y1 aK)) 0x234ec7fd89867c4437f42bce11987e021f92218c37bd4e5bee93d36ad1574e1189dd0058e85a1536b71dbe925704be32809846be9bf06b27a6e88228e95f2d642f65464c965222429b060d func18
def Q8:aG E ⟨134,[.v i4],[qo],A4⟩:=aL (al BY aK) 0xfef023d260ad6452e7260cf4f48a8d7162a9b99f4bacd37e17178bb3f493cb5e0eaea4879c5f018bbb47e69cbd7bc50fe8bb0c11d96cd7f708e754d2990578536c0d func134
def abg:aG E ⟨135,[.v aH,.v aH,.v (.bb .dm oL)],[xx],E1⟩:=aL aK 0x371ff193cf3fc0cfa1ec98b307b3cbf2d6fa702fc971a6f1f888186cacebc9f94f755502e7a86885ecf97108422cf8c7ae7e63cea7efbf91c939942949dd4fea69c14e5839cdd4a34be939203e47f66450564cd6d2e720d4b74ab61df1649acbb487a9e98b15c332d335c5ac269e43b625815c8c0cdf6be770e1d5ca48536c2860d func135
def RQ:aG E ⟨51,[.v i4],[u7,aH],tA⟩:=aL (al abg (al Q8 (al BY aK))) 0xf150cdfe5fe3a923bcd72fea59a722058eaacb1254ce4166d1c772db8cc8e784be87ac5ecd2272bc29b6c0d func51
def Q9:aG E ⟨136,[.v aH],[xy],A8⟩:=aL aK 0xdfc82467e0d9fb84722a694c90a6c0d func136
def Ra:aG E ⟨137,[.v (.bb .dm (.bb .dm .bool))],[De],A6⟩:=aL aK 0x2fa291a1920f6ec8c280bc232e3965453e53d6c324c10abd6cc97b98d778430dac0269ceedd3dd9d281659a5cdefa49bf489d1800774521ac312d619e7e33cb5c33230451508a1e694b3490a6c0d func137
def RR:aG E ⟨52,[.v i4],[oM,aH],tB⟩:=aL (al Ra (al Q9 (al Q8 (al BY aK)))) 0x6cf78da74f226906f4ea204e6f85ca6b4eb16595fcf7eb4861a59d716cb636ae5b71991c9091d0f58bd9a451e14db6c0d func52
def Rs:aG E ⟨212,[.v eZ],[.bool],AT⟩:=aL aK 0x30a5214c0d func212
def K6:aG E ⟨214,[.v eZ,.v aH],[.bool],tq⟩:=aL aK 0xc414853060d func214
def Gs:aG E ⟨138,[.v l5],[aH],vH⟩:=aL (al K6 (al Rs aK)) 0x21b3ec802cac4b24b608f396b0c3542a578536c0d func138
def abh:aG E ⟨139,[.v eZ,.v aH],[.bool],EI⟩:=aL aK 0xd89480d660c5e9f759579d61bf8532f9214db060d func139
def abY:aG E ⟨218,[.v eZ,.v aH],[.bool],E2⟩:=aL aK 0x4f6b0c414853060d func218
def abZ:aG E ⟨219,[.v eZ],[.bool],E3⟩:=aL (al K6 aK) 0x30a5214c0d func219
def Rt:aG E ⟨220,[.v l5],[xy],A7⟩:=aL aK 0xb703efaaa9936cfb20a10e668944cb1d7bbc4ba8b9a6bd8625b2d4652391b40b242a578536c0d func220
def abj:aG E ⟨140,[.v l5,.v eZ],[oM,aH],E4⟩:=aL (al Rt (al abZ (al abY (al Gs (al Ra (al Q9 aK)))))) 0x1c6a8d6b90b7d9b4a14910fa08291137b6378284e37216ceb0a252989437ace3f34a19308f1a6ddc4598817dd8fbd12093b2d9732d5d489452393323a36e1c3648bbc29b6db060d func140
def RS:aG E ⟨53,[.v l5,.v eZ],[oM,aH],rS⟩:=aL (al abj (al abh (al Gs aK))) 0x1bc2423828060d func53
def abk:aG E ⟨141,[.v l5],[HW],E5⟩:=aL (al Rt aK) 0x4ca507872a7daa731a2232cab0fd68412cdb299cf06a9b3733afa94e51321d3ffc580b32e81d4c0d func141
def Rb:aG E ⟨142,[.v (.ptr .dm (.st (.pr (.bb .dm (.bb .dm .bool)) (.pr (.bb .dm .bool) .nil)))),.v aH],[g9],Ba⟩:=aL aK 0x37b000383e5fe082858959575560c7711810a65f2429b060d func142
def abl:aG E ⟨143,[.m HW,.v aH],[],A9⟩:=aL (al Rb aK) 0x10b27fa69338092a4b941ed211787e1ab7e378c6572663404371af2155fa3e0af9c3200e80ea256f3568ed84a33a765ade3c24123285034082439e14c1d func143
def adt:aG E ⟨54,[.v l5],[(.osl g1),aH],Bb⟩:=aL (al abl (al Rb (al abk (al Gs aK)))) 0xfc11063dcb87bbaa7f1b023ddd77232fd2750a42b1937c82bc29b6c0d func54
def abd:aG E ⟨13,[.v i4,.v eZ,.v kt],[HR],yf⟩:=aL (al Lb (al adt (al RS (al RR (al RQ aK))))) 0xb84d09814cb6d4647c12a16f58aadc57e142c0551a3acf0dcb222d39d5c4a9ba193d41e123cf43ce0f83692017bbfb59a59df8fdcb84f68a1d765e310b27c1368e60c868da2d735c6a4c7c7b8a9c4b64aee2f9dbe0b39efeee53de6b7d1c218e2585fc3332690c08f0961b323db7a2d5d8eccb14da8df8e11887ef90e36a0d9979908fa5799a09dc2faf449786faf32dc30ff0c2d34f28886c0f1104c5b0480a2e56620f2b6ac48e5ad31eea72125e4bc29b6db6c2860d func13
def aaM:aG E ⟨10,[.v kt,.v aH,.v aH,.v .bool],[u7,g1,HR],EK⟩:=aL (al adf (al abx (al KZ (al y1 (al abd aK))))) 0x40e4afd9160b85a364550d5b20bb82e4a853de9658b0c052530022493fbcfc98b7149c40c6e4d6e9f902fa8a5f4ce17862936c38a0d func10
def aby:aG E ⟨182,[.v aH,.v aH,.v aH],[.bool],Es⟩:=aL aK 0x2860d func182
def Rr:aG E ⟨211,[.v aH],[.bool],tb⟩:=aL aK 0xd func211
def K4:aG E ⟨200,[.v aH,.v aH],[.bool],vt⟩:=aL (al Rr aK) 0x60d func200
def acb:aG E ⟨252,[.v eZ],[.bool],Ez⟩:=aL (al K4 aK) 0x30a5214c0d func252
def abz:aG E ⟨183,[.v i4],[.bool],Ep⟩:=aL (al acb aK) 0xc4e38401d66b93f29e80930b3bf78f127d54e40fbd6eac4b248cdff8c5060d1e00b4c0d func183
def K2:aG E ⟨194,[.v da],[aH,da],x1⟩:=aL aK 0xd func194
def wz:aG E ⟨147,[.v da],[.bool],pG⟩:=aL (al K2 aK) 0xd func147
def abB:aG E ⟨185,[.v da],[.bool],IK⟩:=aL (al wz aK) 0xd func185
def acc:aG E ⟨253,[.v kt,.c 185 []],[aH],IM⟩:=aL (al abB aK) 0x3195177853060d func253
def abA:aG E ⟨184,[.v kt,.c 185 []],[.bool],Et⟩:=aL (al acc aK) 0x60d func184
def Gr:aG E ⟨101,[.v i4],[aH],tn⟩:=aL (al abz (al aby (al abA aK))) 0x67b600800a7b34c0d func101
def aaO:aG E ⟨102,[.v eZ,.v aH],[g9,.bool],Fi⟩:=aL aK 0x24ba7e56d00a13fd1c6e649549b74dff84c188d32f8afd54b1020cf3dcc1d7726fed04fe9ab949db0f0a6db060d func102
def Rk:aG E ⟨186,[.v i4],[qo],yc⟩:=aL aK 0xffa42fc666439e93c588aef5307a40487df8decb96c7d388140c83212c38c63dac169e0af80c5dda3f34e5ebde287f45d879e23ce5ba6bfb8473aac94c8b4af0a6c0d func186
def acD:aG E ⟨290,[.v (.bb .dm oL)],[qo],IL⟩:=aL aK 0x68a00d func290
def KU:aG E ⟨122,[.v aH,.v aH],[aH],vr⟩:=aL (al Rr aK) 0x60d func122
def acF:aG E ⟨293,[.v eZ],[aH],DE⟩:=aL aK 0x632a2d9d6f0a6c0d func293
def RL:aG E ⟨292,[.v oL,.v oL],[aH],ye⟩:=aL (al acF (al KU aK)) 0x44484baca6d40def2b0df6a0133753060d func292
def ac2:aG E ⟨329,[.m qo,.v aH,.v aH,.c 292 []],[],AQ⟩:=aL (al RL aK) 0x1fdca31dde7cb0d8bf34bc3c1d304081ba01abde156dcc56a12968308e8d4d148233fc240beae1c265119b1fcee01a7912ec06fb61d06a528c369ed21e670c0613412180c2c38a1d func329
def ac3:aG E ⟨330,[.m qo,.v aH,.v aH,.v aH,.c 292 []],[],EG⟩:=aL (al RL aK) 0x618d4d1092b124cd52f05993a6e2203a40c66b8b14bd9add5ea5af44781cf15546dae1a825886c2242b82dc7ebc6c7ab7ca64629fd4829c93800280de8bcc5ca1238a1d func330
def acR:aG E ⟨314,[.m qo,.v aH,.c 292 []],[],IU⟩:=aL (al ac3 (al ac2 aK)) 0x37989f703c821cbbc5f48089b3c0428d79ba2d5bd4a208b73ed8741a93cb0db19d4a09848e70d93620914769b0a1d func314
def acE:aG E ⟨291,[.m qo,.c 292 []],[],IS⟩:=aL (al acR aK) 0x1d func291
def acd:aG E ⟨254,[.v (.bb .dm oL)],[qo],Er⟩:=aL (al acD (al acE aK)) 0x0 func254
def abC:aG E ⟨187,[.v aH,.v aH,.v (.bb .dm oL)],[xx],Eo⟩:=aL (al acd aK) 0x959d45da31ed7102809b9a0142053dc3f335aaee3b3355322320a652b1454f9e264022e136aa17af72e9088f5dbbd5332351d063bfd0f6d35eac33b7abac4c38a38504bc0fac0b2f6f07869dc2f816bcd5c9b5f959c9031e7f90692baab0b010c0f72fb6bd57bf8332d723fb3cbf7683cee3680f113a5618198a33039496922ae51ed9585e0a97f9af0bc7eee3ea155817ed8e712dcef21db00ae4745efb5f3faaceae5276f0a6c2860d func187
def aaP:aG E ⟨103,[.v i4],[u7,aH],En⟩:=aL (al abC (al Rk (al Gr aK))) 0x1df4337f97f3c33500e9d4b34e440b6203aab2c6b1d5349e5d368e3b96dc664743c784be87e89adecd2632bc29b6c0d func103
def Rl:aG E ⟨188,[.v aH],[xy],Ax⟩:=aL aK 0xc169ba8367ee11c8ab853234f0a6c0d func188
def abD:aG E ⟨189,[.v i4],[qo],Em⟩:=aL (al Rk (al Gr aK)) 0x345b8600d func189
def Rm:aG E ⟨190,[.m xy,.v aH,.v aH],[],AA⟩:=aL aK 0x1b90811b875b96fba90abaafbe04f9b237bf78113530a1d func190
def ace:aG E ⟨255,[.v (.bb .dm (.bb .dm .bool)),.v aH],[g9],DS⟩:=aL aK 0x948004acb192e60c7711810d05f24c1bc29b060d func255
def Rn:aG E ⟨191,[.v (.bb .dm (.bb .dm .bool))],[De],Az⟩:=aL (al ace aK) 0x19b0646c8aac2424bc2bfce5b728325d2f1d7610c5e59c1ac58db9c2ae34926b4bfe5b98679f8cf2d70cc8c114542287c452cd240f0a6c0d func191
def aaQ:aG E ⟨104,[.v i4],[oM,aH],Aw⟩:=aL (al Rn (al Rm (al abD (al Rl (al Gr aK))))) 0x1cf822550ff7d77877ce66f6c1b636ae5b7199653012123a1e02ab737b34a9bc29b6c0d func104
def abI:aG E ⟨197,[.v eZ,.v aH],[.bool],DT⟩:=aL aK 0x13f44846cbb9863e60a39d3c29b060d func197
def abL:aG E ⟨201,[.v aH],[.bool],ED⟩:=aL aK 0xd func201
def KT:aG E ⟨113,[.v eZ,.v aH],[aH,.bool],vC⟩:=aL (al abL (al K4 aK)) 0x1098cc9b28a3b4db060d func113
def Ro:aG E ⟨198,[.v l5,.v aH,.v aH],[.bool],x2⟩:=aL (al KT aK) 0x8e0e02860d func198
def Q4:aG E ⟨107,[.v l5],[aH],Av⟩:=aL (al Ro (al abI aK)) 0x4bd4d424fd40bed2a076cf69658e6c3a9308c83eeb40b7f36760e07f7730cdd4d51aa578536c0d func107
def ach:aG E ⟨258,[.v l5,.v aH],[.bool],DW⟩:=aL aK 0x23828060d func258
def acv:aG E ⟨280,[.v da],[aH],Ov⟩:=aL aK 0x209746502b745dc039f07d3 func280
def Rq:aG E ⟨210,[.v da],[aH],Ek⟩:=aL (al acv aK) 0xd func210
def ac7:aG E ⟨336,[.m g9,.v aH,.v aH],[],EC⟩:=aL (al K4 aK) 0x38a4b03519c13a64e224dcdca5ab1d58671f6a6e5efc15ef57660e8f36506b24e15fd6d5d47412c43611215352028144b5ef00d873e014130d9eb4879003018400466030b0a1d func336
def ac4:aG E ⟨332,[.m g9,.v aH,.v aH,.v aH],[],EF⟩:=aL (al ac7 aK) 0xa037a2f317458008e9a7451b130b0185b func332
def acS:aG E ⟨316,[.m g9],[],AP⟩:=aL (al ac4 (al Rq aK)) 0x0 func316
def UQ:jP:=⟨259,[.v eZ],[.bool],DV⟩
def aci:aG E UQ:=M7.agD bq (sort:=λd=>(AP (d,())).map λa=>a.1) (λe f b=>by obtain⟨a,c,rfl⟩:=fO.1 b;exact acS.2 (e,()) a c)
def acg:aG E ⟨257,[.v aH,.v Dg],[.bool],IC⟩:=aL (al ach aK) 0x60d func257
def acG:aG E ⟨294,[.v eZ,.c 257 [Dg]],[aH],IQ⟩:=aL (al acg aK) 0x3195177853060d func294
def acf:aG E ⟨256,[.v eZ,.c 257 [Dg]],[.bool],Ex⟩:=aL (al acG aK) 0x60d func256
def abF:aG E ⟨192,[.v l5,.v eZ],[aH],DR⟩:=aL (al aci (al Q4 (al acf aK))) 0x23828060d func192
def abG:aG E ⟨193,[.v l5,.v eZ],[oM],DU⟩:=aL (al Ro (al Rn (al Rm (al Rl aK)))) 0x18715cf7c5789cb2c9b69bf02e37c46b3d0ab0d91a67ec23bf03771115205fd4aab44e10616d60f396e96c6d5d46e452392123a37717b64961143c29b060d func193
def aaR:aG E ⟨105,[.v l5,.v eZ],[oM,aH],Ay⟩:=aL (al abG (al abF aK)) 0x1bc2423828060d func105
def mF:aG E ⟨226,[.v fW],[fW],i5⟩:=aL aK 0x1a28f318a51a6c0d func226
def uj:aG E ⟨239,[.v .bool,.v fW],[c7],my⟩:=aL (al mF aK) 0x21200d func239
def Gu:aG E ⟨168,[.v aH],[c7],vx⟩:=aL (al uj aK) 0xdf530f0123de5733a6c0d func168
def abH:aG E ⟨195,[.v da],[.bool],DP⟩:=aL aK 0xd func195
def Gz:aG E ⟨240,[.v fW],[l6],vD⟩:=aL aK 0x10a00d func240
def K3:aG E ⟨196,[.v c7],[c7],tj⟩:=aL (al Gz (al uj aK)) 0x13eff81bf3c519fa4e0f047e9e9ffe2c0dd4c0d func196
def Gw:aG E ⟨177,[],[cJ],xY⟩:=aL aK 0x608 func177
def ab1:aG E ⟨222,[.v c7],[c7],D0⟩:=aL (al Gz (al uj aK)) 0x2e8f139fdf62eff0bf10f98af03cb94add4c0d func222
def y0:aG E ⟨149,[.v c7],[aH],qA⟩:=aL (al mF aK) 0x58600d func149
def Ru:aG E ⟨223,[.v c7],[aH],AC⟩:=aL (al Ry aK) 0x18db00319516d1e14c0d func223
def acx:aG E ⟨282,[.v fW],[aH],AF⟩:=aL (al K8 aK) 0xd func282
def Gy:aG E ⟨224,[.v c7],[aH],th⟩:=aL (al acx (al mF aK)) 0x58600d func224
def RJ:aG E ⟨286,[.v fW,.v aH],[fW],x6⟩:=aL (al mF aK) 0x25561a988284004635c91aca8599e2f0a6db060d func286
def acQ:aG E ⟨313,[.v gv],[.bool],ID⟩:=aL aK 0xd func313
def ac1:aG E ⟨328,[.v fW,.c 313 []],[aH],IR⟩:=aL (al acQ aK) 0x3195177853060d func328
def acP:aG E ⟨312,[.v fW,.c 313 []],[.bool],AN⟩:=aL (al ac1 aK) 0x60d func312
def RK:aG E ⟨287,[.v fW,.v aH],[fW,.bool],AE⟩:=aL (al mF (al acP aK)) 0xbbe80961156045d82d18e7622afa3a37fab0b3f09b34a95aa7f65628436c8eb47c82b9eb684db060d func287
def La:aG E ⟨245,[.v fW,.v fW],[fW],x5⟩:=aL (al mF aK) 0xdb4c17e506b0084181cf87f15780fd690b822cf56a736a694e64aef79d79b0e0d1f4400542702a07d3 func245
def RA:aG E ⟨247,[.v c7,.v aH],[c7,aH],rL⟩:=aL (al RK (al RJ (al La (al uj (al mF aK))))) 0x2c0d40b7824f6784d8b1f0638b6aed0c267a5d26b10ad4f50c1e4140483ac0dd20c78ab926cc6453060d func247
def Rv:aG E ⟨225,[.v c7,.v aH],[c7],At⟩:=aL (al RA aK) 0x12a206e95ad94ccb18d26e4798ccc8a34c0d func225
def wA:aG E ⟨148,[.v cJ],[cJ,.bool],oU⟩:=aL (al Rv (al Gy (al Ru (al ab1 (al Gw (al y0 aK)))))) 0x1326d3dddf3a6b7574272efdf39dec77aaf10f35f74536fe341c5335c93633cc66684b4db6c0d func148
def B3:aG E ⟨167,[.v c7,.v aH],[cJ],tc⟩:=aL (al wA aK) 0x196325628060d func167
def pS:aG E ⟨106,[.v da],[cJ],ld⟩:=aL (al K3 (al abH (al K2 (al Gu (al B3 aK))))) 0x4b1eed0378d36dc666172033de6f513426c0d func106
def RP:aG E ⟨39,[.v i4,.v eZ],[(.ptr .bo xA),aH],qF⟩:=aL (al pS (al aaR (al aaQ (al aaP (al aaO (al Gr aK)))))) 0x5018ebc57ea0905347e1dabe17afcc003ed06288a63946180f7ee1f5c9b4cbb46d42b47ca54170347b73464365fea0eba37415b76f300aa73978eec5622fcfde5343ed275965c844335fe446172956de91f65cb8a27fd6f0273e4889c47fcd3fc925964538d48400b05bd924b4e5415880f4eb014fae491d978b4fb45d4b0aba88dd274cdd4b44d0b55f578d602ddfa21edc28a626132d9ede1c31fd9acfec65d79dbfe4a5d606f1be309200dd565cb46a6db6db060d func39
def acH:aG E ⟨299,[.v da,.v da],[da,da],El⟩:=aL aK 0x60d func299
def acj:aG E ⟨260,[.v da,.v da],[da,da],IJ⟩:=aL (al acH aK) 0x60d func260
def abJ:aG E ⟨199,[.v eZ,.v aH],[g9],EA⟩:=aL (al acj aK) 0x4f1df1c7b43d69ee5cbeb6acff078e0b6c79603b14c9a2997259069be51e39053060d func199
def aaS:aG E ⟨108,[.v k6,.v aH],[g9,.bool],Ff⟩:=aL (al abJ aK) 0x8c6b0a4915c00bd6692471aa627386d879118613a822be88c5866006e60ebb93013c46523febc29b060d func108
def aaU:aG E ⟨110,[.v pz,.v aH],[.bool],Fh⟩:=aL aK 0x29886fc0076f4bdfe95654edcc34053e6b0a1e14db060d func110
def aaW:aG E ⟨112,[.v k6,.v eZ,.v pz],[.bool],Fg⟩:=aL (al KT aK) 0x313b180181daa81aac5eb8bc29b6c2860d func112
def aaT:aG E ⟨109,[.v pz,.v (.ptr .dm aH)],[.bool],I2⟩:=aL (al aaU aK) 0x57828060d func109
def aaX:aG E ⟨114,[.v k6,.c 109 [(.ptr .dm aH)]],[aH],IN⟩:=aL (al aaT aK) 0x3195177853060d func114
def adh:aG E ⟨41,[.v k6,.c 109 [(.ptr .dm aH)]],[.bool],Eu⟩:=aL (al aaX aK) 0x60d func41
def aaV:aG E ⟨111,[.v pz,.v (.ptr .bo k6),.v (.ptr .dm g1)],[.bool],I3⟩:=aL (al aaW aK) 0x15e0e02860d func111
def aaY:aG E ⟨114,[.v k6,.c 111 [(.ptr .bo k6),(.ptr .dm g1)]],[aH],IP⟩:=aL (al aaV aK) 0x3195177853060d func114
def adi:aG E ⟨41,[.v k6,.c 111 [(.ptr .bo k6),(.ptr .dm g1)]],[.bool],Ev⟩:=aL (al aaY aK) 0x60d func41
def adg:aG E ⟨40,[.v l5,.v k6],[aH],vQ⟩:=aL (al KT (al aaS (al Q4 (al adi (al adh aK))))) 0x18150ea83acfc35258f27581a39e74c5d1369b7838268caf65751e1fd1a083817c0984d9ac0bda67784ece531e9c3d2cdb68776d62592527f0e85fd0587d05d021347c83152d55954536db060d func40
def aa0:aG E ⟨115,[.v pz,.v (.bb .dm k5)],[g9,aH],Eg⟩:=aL aK 0x6fc9e5f6e37f070ceaf6e7f98519f8018dcd9410b424c3745a1cc734aace3ce5b983aee4604f5994948b43c29b060d func115
def Q6:aG E ⟨116,[.v (.ptr .dm (.st (.pr aH (.pr l5 (.pr (.bb .dm (.fm .dm cJ)) .nil))))),.v aH,.v aH],[cJ],vR⟩:=aL aK 0x19a02860d func116
def abM:aG E ⟨202,[.v eZ,.v aH],[aH],AO⟩:=aL aK 0x3195177853060d func202
def K0:aG E ⟨172,[.v cJ,.v cJ],[cJ,cJ,.bool],xZ⟩:=aL (al wA aK) 0x16dfd661c5ccb66bde98b8a9221192db268d4db060d func172
def B4:aG E ⟨180,[.v c7,.v aH],[c7],oT⟩:=aL (al RA aK) 0x848060d func180
def Rh:aG E ⟨173,[.v cJ,.v cJ],[c7,c7,aH],As⟩:=aL (al B4 aK) 0x9093705ab462aadc7bbb83df416ea3999ba9b060d func173
def acO:aG E ⟨311,[.v gv],[.bool],DF⟩:=aL aK 0xd func311
def acz:aG E ⟨284,[.v gv,.v gv],[aH],DD⟩:=aL (al acO aK) 0x60d func284
def K9:aG E ⟨241,[.v fW,.v fW],[aH],x3⟩:=aL (al acz (al KU aK)) 0x620a429b060d func241
def Rz:aG E ⟨246,[.v fW,.v fW],[fW],x4⟩:=aL (al mF aK) 0x913b594e402c0809a80b1171f56a736b342e69c77118d0dc7d3ef92c25e14db060d func246
def Gx:aG E ⟨179,[.v c7,.v c7],[c7],tg⟩:=aL (al Rz (al La (al K9 (al uj (al mF aK))))) 0x398267c5e5cb421c0bf15ec412370d6777027b00ff919578eb969b060d func179
def Rg:aG E ⟨170,[.v cJ,.v cJ],[cJ],Aq⟩:=aL (al Gx (al Gw (al Rh (al K0 (al B3 aK))))) 0x21e434648060d func170
def aa1:aG E ⟨117,[.m sS,.v k5],[],D9⟩:=aL (al abM (al Rg aK)) 0x4d7eb7f7388a0e93d703f0f116e0d1ca88071de5398f98e789e7b619828025835f549337c3d2b21f3062a44aacb349de825ddc5800acc277de6dac0e127e483ada7b8e7ebc41feabe5600fa57752de1e93180e54aff3e888d164af718ffc3bbc7e83d634c2a36dea5612b34904e3c02256e87fd5be3fa3d944d6a8e9003feae5ec8ef5cc154e4ca4246038d0fd2c6093b61e14c1d func117
def adl:aG E ⟨43,[.v (.ptr .dm (.st (.pr aH (.pr l5 (.pr (.bb .dm (.fm .dm cJ)) .nil))))),.v pz,.v (.bb .dm k5)],[sS,aH],D7⟩:=aL (al aa1 (al Q6 (al aa0 aK))) 0x79006c4a046b69142cf4fcfd2c095d0c411aff892803a8c831265f9cdf6f83a8c271127dd76b6ea4e1d5f411ebaf3515246d2f593130c451b113bbcd932e301e093c0987fc92005beca2b4328551ca1cba4c9f02122774d5d1e4b75954bb2b0648659be252c7745276b646b749c3ad22a4ae89b9cb78324ca13dc8377d85df53cd56c04492c64f64a4c4e7055a10bcc24f6321c66a40764cb4cd9b6847dd7f3c2950194a4a312761443e7a1f750295ac96edb79a0436c50afaa0438e8f9c9eb17551c278591d7cff4adb627b34bad079d86a39429046b7f389a52a0a3756dfd776285f33ef3ca4da4f46f88c874a6da31e860073087cc0eca1a3070c6b1d28fe13b2d59a1382001406f45e62e536c2860d func43
def y6:aG E ⟨83,[.v aH],[cJ],pE⟩:=aL (al Gu (al B3 aK)) 0x18a00d func83
def KY:aG E ⟨166,[.v cJ],[cJ],vu⟩:=aL (al wA aK) 0x18a00d func166
def y3:aG E ⟨61,[.v cJ],[aH],pF⟩:=aL (al y0 (al wA aK)) 0xd func61
def Gv:aG E ⟨169,[.v c7],[c7],te⟩:=aL (al Gz (al uj aK)) 0x14d10558600d func169
def acK:aG E ⟨302,[.v cJ],[rz],IB⟩:=aL (al Gv aK) 0xacaa17150fde9cdd00cdd4c0d func302
def acU:aG E ⟨319,[.v rz],[aH],DJ⟩:=aL (al Gy aK) 0x28e0600d func319
def ac9:aG E ⟨344,[.v c7,.v c7],[c7],D1⟩:=aL (al Gx aK) 0x425628060d func344
def Ri:aG E ⟨174,[.v c7,.v c7],[aH],AB⟩:=aL (al K9 (al mF (al y0 aK))) 0xb1d628060d func174
def ac5:aG E ⟨333,[.v rz,.v aH],[c7,aH,.bool],Ar⟩:=aL (al ac9 (al Rv (al Gy (al B4 (al Ri (al Gu (al y0 aK))))))) 0x1c18518eef2bd6b077e5b23133f662829d83973b2b940fafa2c53c00f0fdbddf7b7bff50820b4cea6db060d func333
def acX:aG E ⟨321,[.v rz,.v aH,.v aH],[c7],DK⟩:=aL (al ac5 (al Ru (al K3 (al B4 (al Gx (al Gu (al y0 aK))))))) 0x516e67d9c03d4be4b593b527a8a141cf3ec73874347881059210e08bec0ff815cc2e4256ca7579f26ae4cb26c2860d func321
def acW:aG E ⟨320,[.v c7],[aH,.bool],DY⟩:=aL (al mF aK) 0xa7c641ad7f1d2d071bccbdff54d885b951b13e8897972bc29b6c0d func320
def RN:aG E ⟨322,[.v da,.v .bool],[da],vw⟩:=aL aK 0x60d func322
def acY:aG E ⟨323,[.v .bool,.v aH],[da],DQ⟩:=aL (al RN aK) 0x8a2dc93060d func323
def RM:aG E ⟨301,[.v rz,.v aH],[da],Au⟩:=aL (al acY (al RN (al acX (al acW (al acU (al Gv aK)))))) 0x1ea87807b3e04826db060d func301
def ack:aG E ⟨262,[.v cJ,.v aH],[da],DN⟩:=aL (al y3 (al acK (al RM (al KY aK)))) 0x60d func262
def K5:aG E ⟨206,[.v k5,.v aH,.v aH],[da],tm⟩:=aL (al ack aK) 0x2860d func206
def acT:aG E ⟨318,[.v da],[aH],DM⟩:=aL (al K2 aK) 0x107f69059a6c0d func318
def acJ:aG E ⟨300,[.v kt],[.bool],DO⟩:=aL (al acT aK) 0x316513c5e14c0d func300
def RE:aG E ⟨261,[.v da],[da],x0⟩:=aL (al acJ aK) 0xd func261
def Lg:aG E ⟨86,[.v cJ,.v cJ],[aH,.bool],xX⟩:=aL (al Ri (al Rh (al K0 aK))) 0x444878060d func86
def abN:aG E ⟨203,[.v k5,.v aH],[cJ,aH,aH],AK⟩:=aL (al Lg (al y6 (al RE (al K5 (al wz (al pS aK)))))) 0x588fc0c7e46989ff34ea4ff874136a293cca76335cc91c70abeda2e0d06c6e658ea48ba045260ed1b7d1c9ab649c3c29b060d func203
def abO:aG E ⟨204,[.v k5,.v aH],[cJ],AH⟩:=aL (al RE (al K5 (al pS aK))) 0x648060d func204
def ab7:aG E ⟨244,[.v fW,.v fW],[fW],D4⟩:=aL (al mF aK) 0x2fc9a11e020c623fde3ecd3f4be637e9993a2a0976f654c3424c58967aaca694e303fe3afed168f9093060d func244
def abw:aG E ⟨178,[.v c7,.v c7],[c7],DZ⟩:=aL (al ab7 (al uj (al mF aK))) 0x38bc3f495bb3d89730d0333753060d func178
def wD:aG E ⟨90,[.v cJ,.v cJ],[cJ],m0⟩:=aL (al abw (al Gw (al K0 (al B3 aK)))) 0x1319ea9cf458ab1896b6ab26818f4fdfafcf5929aad2401baacb968d4db060d func90
def abP:aG E ⟨205,[.v cJ,.v cJ],[.bool],x8⟩:=aL (al wD (al Lg (al y6 aK))) 0xe1dc28060d func205
def aa2:aG E ⟨118,[.v k5],[g9,aH],Ea⟩:=aL (al wD (al y3 (al abP (al abO (al abN aK))))) 0x95245812a0a3df38ebf57b4ecb1a4babfe744d44e861e3a90899d7d2f6ef9cda1db9a3f8a9e0152b992392b3730cb94b1e14c0d func118
def RF:aG E ⟨263,[.v k5],[g9],AL⟩:=aL aK 0x5e8002f94f0ae607ee1180abe5323af0a6c0d func263
def adb:aG E ⟨350,[.v fW,.v gv],[fW,gv],D3⟩:=aL (al mF aK) 0x10230b9c413d9c26b918d3b27d6f29214db060d func350
def RO:aG E ⟨326,[.v gv],[aH],vB⟩:=aL (al K8 aK) 0xd func326
def US:jP:=⟨351,[.w gv,.v fW],[gv],AD⟩
def adc:aG E US:=
 .q aK (.k [1] (.n (.n (.t .none (.d [.b [0],.a,.b [0],.b [0],.a,.a,.b [0],.a,.a,.b [0],.b [0],.a,.a,.a]) (.n (.t .none (.o (.k [5] (.p ⟨[(0,.w 0),(7,.v da),(8,.v da)],[(0,l6)]⟩ (.x 0 ⟨[(0,.w 0),(7,.v da)],[(0,l6)]⟩) (.t (.w4 [7,8] ⟨[(0,.w 0)],[(0,l6)]⟩) (.t .none (.d [.a,.a,.a,.a,.a,.a,.a,.a,.a,.a,.a,.a,.a,.b [0],.a,.a,.b [0],.b [0],.a,.a,.a,.a]) .l) .l)))) (.n (.t .none (.n (.o (.k [5,7,84,85] (.p ⟨[(0,.w 0),(9,.v da),(10,.v da),CL 86],[(0,l6)]⟩ (.x 2 ⟨[(0,.w 0),(9,.v da),(10,.v da)],[(0,l6)]⟩) .l)))) (.n (.n (.n (.n (.t .none (.n (.o (.k [5,7,140,141] (.p ⟨[(0,.w 0),(9,.v da),CL 142],[(0,l6)]⟩ (.x 4 ⟨[(0,.w 0),(9,.v da)],[(0,l6)]⟩) .l)))) .l))))))))))))) func351 call351
def ada:aG E ⟨345,[.v fW,.v fW],[fW,fW],D2⟩:=aL (al adc (al adb (al RO (al RK (al RJ (al K9 (al Gz (al mF aK)))))))) 0x18aeeeedfec8ea0182e7212c918b4d25c414f669368a4637e66e53e6c922f3a78536db6db060d func345
def ac6:aG E ⟨334,[.v c7,.v c7],[c7,c7,aH],DX⟩:=aL (al ada (al Rz (al La (al uj (al mF aK))))) 0xf788e0cb21542043b401bc9747f2c0e722a5ad9592864d80a9ce054cf7b632a826db060d func334
def acZ:aG E ⟨324,[.v cJ,.v cJ,.v aH],[rz],DI⟩:=aL (al ac6 (al Gy (al B4 (al Gv (al y0 aK))))) 0x2d553b25a474298294e1aa7de92eec6701da11a33e060d970ef81ccfc0ebba803338937a0666ea6c2860d func324
def GB:aG E ⟨303,[.v cJ,.v cJ,.v aH],[da],td⟩:=aL (al y3 (al acZ (al RM (al KY aK)))) 0x57bd99e6dacfaac797f32a792d67b8db2a141d202d2ede8d4c2860d func303
def RH:aG E ⟨268,[.v (.bb .dm cJ),.v cJ],[rA],pH⟩:=aL (al wD aK) 0x3a4a66f7e0931dc46c42f97c8e735bc29b060d func268
def abu:aG E ⟨171,[.v cJ],[cJ],DH⟩:=aL (al K3 (al wA aK)) 0x93c00cf192331ba6c0d func171
def GC:aG E ⟨85,[.v cJ,.v cJ],[cJ],vv⟩:=aL (al abu (al Rg aK)) 0x47b452bee004bcf2b753060d func85
def RG:aG E ⟨267,[.m sS,.v eZ,.v (.bb .dm cJ),.v (.bb .dm cJ)],[],qB⟩:=aL (al wD (al GC aK)) 0x1df4ec24225ed6d23853449b6ba86f6015a49eb3cc6a16100ebbb3039beafd16394c3c0e945c8fc0bf9d0fb12faad8742398030ddda31ed7b4d0f46d0c0613c13980c36cd2c38a1d func267
def acn:aG E ⟨265,[.v aH],[cJ],Ef⟩:=aL (al y6 aK) 0x18a00d func265
def aco:aG E ⟨266,[.v k5,.v eZ,.c 265 [],.v cJ],[xz,rA,aH],IE⟩:=aL (al GB (al acn (al wz (al pS aK)))) 0x110edc05890329cfb891e901349a2b11286e4e1da761e9463519443f16cd2e312022052e81deec4c21f6d3b9d8d628dc0976d2a9bbb4e1eb89ab0af6c30ead0ac6a803630b4c2b01821dc12a599684c3c2b15bad91576eace834e39cc72dd0b848be79179ab611a49992c2ea285d33dd1205e24d51dde14db0e2860d anT
def acm:aG E ⟨264,[.v aH,.v (.ptr .bo k5),.v (.ptr .bo aH)],[cJ],Ee⟩:=aL aK 0x32efc6f7e0f204cdd4c2860d func264
def acp:aG E ⟨266,[.v k5,.v eZ,.c 264 [(.ptr .bo k5),(.ptr .bo aH)],.v cJ],[xz,rA,aH],IF⟩:=aL (al GB (al wz (al pS (al acm aK)))) 0x110edc05890329cfb891e901349a2b11286e4e1da761e9463519443f16cd2e312022052e81deec4c21f6d3b9d8d628dc0976d2a9bbb4e1eb89ab0af6c30ead0ac6a803630b4c2b01821dc12a599684c3c2b15bad91576eace834e39cc72dd0b848be79179ab611a49992c2ea285d33dd1205e24d51dde14db0e2860d anT
def abQ:aG E ⟨207,[.m sS,.v aH,.v da],[(.osl mY),aH],Ed⟩:=aL (al y6 (al y3 (al RH (al RG (al RF (al pS (al acp (al aco aK)))))))) 0x8a17e9f13b5ca7b18d7c88dcc46098fd8c3d0a5ca71f7e35ebc60e0916a764cff978abe49c9a29612ec91cb5b47a3f7847c6a35999ce961406ada1da9b0a1d func207
def Le:aG E ⟨62,[.v (.bb .dm cJ)],[cJ],vz⟩:=aL (al wD (al GC aK)) 0x5ec6547812c55d1cccdd4c0d func62
def RI:aG E ⟨269,[.v aH,.v aH,.v aH,.v cJ,.v cJ,.v (.ptr .bo k5)],[cJ],AJ⟩:=aL (al wD (al GC aK)) 0x1758e808151921459c5a34a403333337531648e2860d func269
def acs:aG E ⟨270,[.v aH,.v (.ptr .bo (.fn 269 (.pr (.ptr .bo k5) .nil))),.v (.ptr .bo aH),.v (.ptr .bo aH),.v (.ptr .dm nU)],[cJ],Eb⟩:=aL (al RI aK) 0x137b461f07c441ccdd4c48e2860d func270
def acq:aG E ⟨266,[.v k5,.v eZ,.c 270 [(.ptr .bo (.fn 269 (.pr (.ptr .bo k5) .nil))),(.ptr .bo aH),(.ptr .bo aH),(.ptr .dm nU)],.v cJ],[xz,rA,aH],IG⟩:=aL (al GB (al wz (al pS (al acs aK)))) 0x110edc05890329cfb891e901349a2b11286e4e1da761e9463519443f16cd2e312022052e81deec4c21f6d3b9d8d628dc0976d2a9bbb4e1eb89ab0af6c30ead0ac6a803630b4c2b01821dc12a599684c3c2b15bad91576eace834e39cc72dd0b848be79179ab611a49992c2ea285d33dd1205e24d51dde14db0e2860d anT
def act:aG E ⟨271,[.v aH,.v (.ptr .bo (.fn 269 (.pr (.ptr .bo k5) .nil))),.v (.ptr .bo aH),.v (.ptr .bo aH),.v (.ptr .dm nU)],[cJ],Ec⟩:=aL (al RI aK) 0x137b461f07c441ccdd4c48e2860d func271
def acr:aG E ⟨266,[.v k5,.v eZ,.c 271 [(.ptr .bo (.fn 269 (.pr (.ptr .bo k5) .nil))),(.ptr .bo aH),(.ptr .bo aH),(.ptr .dm nU)],.v cJ],[xz,rA,aH],IH⟩:=aL (al GB (al wz (al pS (al act aK)))) 0x110edc05890329cfb891e901349a2b11286e4e1da761e9463519443f16cd2e312022052e81deec4c21f6d3b9d8d628dc0976d2a9bbb4e1eb89ab0af6c30ead0ac6a803630b4c2b01821dc12a599684c3c2b15bad91576eace834e39cc72dd0b848be79179ab611a49992c2ea285d33dd1205e24d51dde14db0e2860d anT
def abR:aG E ⟨208,[.m sS,.v aH,.v aH,.v kt],[(.osl mY),aH],AI⟩:=aL (al Le (al RH (al RG (al RF (al pS (al acr (al acq aK))))))) 0x220f838017cabcc38d878864832136ef3705b21222f92856b512d000ac6106dd11d7fd766c0ee7cdd1327c41821491f59bcb4d64e439477f40f33e7f9836363caab8dc72c67b37f903bbd26805f5ced22f4be8a5de809fd2db119dd3276eb914db624487400f6a296a30d4d13e4f43eff5f9c67dbfbaa2f4af39744c7fc7fe6ed2de915ec27b66e93b65d573b6a9d0794e3676424f1cee3b8566c3e45666ea6c38a1d func208
def aa3:aG E ⟨119,[.m (.optr Di),.m sS,.v eZ],[aH],Eh⟩:=aL (al abR (al abQ (al K5 aK))) 0x171e5c0d980f51515dfe713bf7bf1998ef583f32159c176172d22ac1c32788fffdecc426808b436db260497d926041bf98c4a80fa01fec211753fdf0aabfa8a69f79cb72448212a619dde991fa5577ac0fdfaa074cc49092bd5c7cfc90a5bff7b9eb418aa8505b5f1fe26481e08e7fb4e56b0bc20f7ce47190fa6dffd26f600515e958bac3d88dac24daebef5c721c25c32a62774a4d804f42e2a2f5291949fdc68d36d942cc33cac69f7622513414d7a452c323f1974748640655bdca2b4516da4356b826ff2b1476bb37c940347b4b3f26b68e74894c355e06c9045feda2aa6a9abf2c8ac32e03fc4c07e34ea4e3a75e8897f0708e30132137ca2d87fb4c742f65f1da0d561896e673f1676d63850054424626a5cd247681d66ac6c1252f0a6c2d func119
def adm:aG E ⟨44,[.m (.optr Di),.m sS],[aH],Ej⟩:=aL (al aa3 (al aa2 aK)) 0x163fc65b80ff711c9112fdf745fa6cc48f05b0ff526cab8d6482a8d9a3c7cca2139475a43b6b1c24a2126b491da061b048d3 func44
def aa6:aG E ⟨121,[.v aH,.v aH,.v (.ptr .dm eZ),.v (.ptr .dm mY)],[aH],vA⟩:=aL (al KU aK) 0xe2860d func121
def acu:aG E ⟨272,[.m g9,.v aH,.v aH,.c 121 [(.ptr .dm eZ),(.ptr .dm mY)]],[],IT⟩:=aL (al aa6 aK) 0x1fdca31dde7cb0d8bf34bc3c1d304081ba01abde156dcc56a12968308e8d4d148233fc240beae1c265119b1fcee00a0512ebfc0361cf80528c369ed21e400c0610012180c2c38a1d func272
def abS:aG E ⟨209,[.m g9,.v aH,.v aH,.v aH,.c 121 [(.ptr .dm eZ),(.ptr .dm mY)]],[],EE⟩:=aL (al acu aK) 0x280de8bcc5d160023ae9d546c4c2c0616c4d func209
def aa5:aG E ⟨120,[.m g9,.c 121 [(.ptr .dm eZ),(.ptr .dm mY)]],[],EB⟩:=aL (al Rq (al abS aK)) 0x1d func120
def adn:aG E ⟨45,[.v (.ptr .bo (.st (.pr (.ptr .bo xA) (.pr g1 (.pr g1 (.pr (.bb .bo da) (.pr (.bb .bo mY) (.pr aH .nil)))))))),.v eZ],[HQ],Ei⟩:=aL (al aa5 aK) 0x3762376f90e937bf32923b94339d468b45194bf042a6aeca05cb89bb7c97cd05c5c313825edf5c520f44146c996c0adc28cf289677f0dbf2c40a90f48ca0b26f2dda8d320e78181d004631001629b6d22ed9555bd5285a128b6fdd9008a6d7a8aeae178af1497a0a4f3de68d38a5e89276376da3803c6dd1f04123c57ca9f2bbac6ecf2bc22b839735be1e947febc823c6611e57409605c1d08d38e7250e960e829aaa5a950ffbd9448d5bb50806be1d68ab82a4ee0203ccbc94040ba624502865cb2608b5f5a5de5a9da44f79cc5b819e982928b8ded8f98ab1bee883a5a7ca1b0faea441d079e739b17af895fc886812c2b5815132107f3871b458be6862e42bf42a3ebf326fa3f72a76d1848a4860d3fd36a7b8d08063c94eaaf00489cb9e461ae33c99104ae30fa09759129a12140dd5ff3e986df9613916cc559ba9b060d func45
def adk:aG E ⟨42,[.v pz],[.bool],D5⟩:=aL aK 0x15e0600d func42
def aaZ:aG E ⟨114,[.v k6,.c 42 []],[aH],Ey⟩:=aL (al adk aK) 0x3195177853060d func114
def adj:aG E ⟨41,[.v k6,.c 42 []],[.bool],Ew⟩:=aL (al aaZ aK) 0x60d func41
def Q5:aG E ⟨11,[.v i4,.v eZ,.v k6],[z2,aH],m1⟩:=aL (al adn (al adm (al adl (al adg (al RP (al adj aK)))))) 0x677b18c73febb7e95d3b3a249372fb147b80513e233de7947242663d62a9d1511677f54dd058830338ddf58631ab0e77fa81abeee61e96ff9fef94e969ce4734237e9a022aad77438a3798c955b70b7ad012710abc894d2d57d83ef20a4a736b399e524c1df77790bfd5214e2da6eacf9db5712774b5cd062716dba0c4f3b2303f0760772262bf96e2542fa40aeda6599088d058345ee658f9e21dda457264054b1da8a0b49c7d5448172907759c57a78536db6c2860d func11
def RT:aG E ⟨63,[.v eZ,.v aH],[.bool],Bf⟩:=aL aK 0xd89480d660c5e9f759579d61bf8532f9214db060d func63
def RY:aG E ⟨94,[.v i4,.v eZ],[aH],Bg⟩:=aL (al RT (al BY aK)) 0x2e28060d func94
def aa8:aG E ⟨124,[.v i4,.v eZ],[oM],E7⟩:=aL (al RS (al RR (al RQ aK))) 0x378986f0f07e161bc26e28060d func124
def abU:aG E ⟨213,[.v k6,.v aH],[aH],Bc⟩:=aL aK 0x9f3f85cf6b0c414853060d func213
def aa7:aG E ⟨123,[.v l5,.v k6],[aH],yn⟩:=aL (al K6 (al abU (al Rs (al Gs aK)))) 0x1e5ec134f82c41aa06e4c9878b2f2b25acc7a6ef8f99cc5911cfa735238c3174344edba94f5b3638490c0f4c8f2fd70998c9b289d0f0a6db060d func123
def ado:aG E ⟨46,[.v i4,.v eZ,.v k6],[aH],vK⟩:=aL (al RY (al aa8 (al aa7 aK))) 0xcffc00c7148536c2860d func46
def RZ:aG E ⟨95,[.v i4,.v eZ,.v aH,.v aH],[cJ],vJ⟩:=aL (al R0 (al wC aK)) 0x346e480e2860d func95
def KV:aG E ⟨125,[.v eZ,.v aH],[aH],rT⟩:=aL aK 0xc414853060d func125
def Re:aG E ⟨164,[.v cJ,.v cJ],[c7,c7,aH],tx⟩:=aL (al si (al B0 aK)) 0x5699f80d1eec097150bd924eb57b7e0810b977965f213bd417b6307c71a00e450883615928d97be4f301841b0d8c0fb737e2abf97673addc1efa06161f4793c1b95b1df7b488a0d4fff140f2e52b753060d func164
def Lf:aG E ⟨80,[.v cJ,.v cJ],[cJ],ts⟩:=aL (al uk (al y5 (al qU (al Re (al BZ aK))))) 0x14352382663baf7b2d8d482bfbe52b0f77e648441a437650dbc569171ac7ba4ba5a353060d func80
def adp:aG E ⟨47,[.v i4,.v eZ,.v k6,.v aH,.v (.bb .dm ry)],[(.st (.pr g1 (.pr aH rx)))],Fa⟩:=aL (al RZ (al Lf (al KV aK))) 0x99cd41bd709549b1866c444fa10ba53722f023922cfd11d26e2975efeabd0717910112dbcaf4dee3ef3dbbf6052c008bc15e1a8441c2ebda7613f2c85cf188010512a4a9ca331e0762092122d889f9616663d9aeb4049682f25a3b92562e133620027dd15d954ce2d7bfea0e0b663cdd394a86788849af7bfede8fdbd7432dd9134a07e1b69e46d66f1f181f3abe0de8dd5d9b12acb4c52c67d3c1693b756ad1c467b793e67ce5863af4b4693b91f023c6c27b8980fff9fcb4ea881c783b5aa50fd33b98689712ae24356a946d613acaf9acc82d36b9bffb1e62b6f0f03ae424b4c0ed622d1a95c1a7234934232087608549f6f749d02b47ac3a131bf86526b03fdee6e4912baba8665d8a0e8c67d8c22779a2ff3ac8466e4185cf35c22dd76de884eeb3c4b549d31c4425ee01c9b7a4fe198b29e9b6a03c3f1adb5e2d34fb4a5142457c1b371e87b5abc1326e7529afabdd549a767002772a3a939e3ba48a957e3b664e8ec61819bcd9fdb21d9df616fd878c1c6c7a26ff16a5b9e0aed4fc7bdf283315d6c1f89a82d95cc3165e780b5a8a34194aa946ee42468b21fee6485a23532019f2ba57e62000cbb756741a71ce2a534df76b905d6b88cfe91ec8f4177fca82fd222f0a6c48e2860d func47
def Q7:aG E ⟨130,[.v cJ],[da],vI⟩:=aL (al Li aK) 0x70600d func130
def aa9:aG E ⟨126,[.v ry,.v aH],[rA,.bool],Bj⟩:=aL (al Lh (al y2 (al wC (al Q7 aK)))) 0x929a7639e5a093aee4cc4eb194843c29b060d func126
def acA:aG E ⟨285,[.v c7,.v c7],[aH],EL⟩:=aL (al si (al KW aK)) 0xb1d628060d func285
def ab5:aG E ⟨242,[.v cJ,.v cJ],[aH,.bool],ES⟩:=aL (al qU (al acA (al Re aK))) 0xa2dccca1eaab1a92bca6561ebc8434c7650dbc569171ac7ba4ba5a353060d func242
def K1:aG E ⟨175,[.v cJ,.v cJ],[.bool],tC⟩:=aL (al ab5 aK) 0xe1dc28060d func175
def aba:aG E ⟨127,[.v (.bb .dm cJ),.v aH],[cJ,aH],yq⟩:=aL (al K1 aK) 0xde01aa5cd2d76243730cd4217f90efd50916f584b81ff6c3e2e7ead595aa920a5d148c39c6db26c64d92429b060d func127
def RD:aG E ⟨26,[.v cJ],[aH],A0⟩:=aL (al qU (al si aK)) 0xd func26
def ab2:aG E ⟨228,[.v fW,.v fW],[l6],ER⟩:=aL aK 0x991f1c4b5d2359af0aa155ed3d69cd6217c51417e037f3380b4cead114a2c312d69c77118d0a65f2429b060d func228
def abt:aG E ⟨152,[.v c7,.v c7],[c7],EO⟩:=aL (al wB (al ab2 (al ui aK))) 0xe288c107e707dad256ecf62607a8de5b2b231883fd56f8c90554506d1a3ed3dbbe84c73753060d func152
def y4:aG E ⟨68,[.v cJ,.v cJ],[cJ],kc⟩:=aL (al uk (al y5 (al qU (al abt aK)))) 0x5bca1a1a1b6fd6b038bdec9319b6dca3b8a73546ea8e3770f3ce3386e406f7b2d8d449157e52b0f77e648441a437650dbc569171ac7ba4ba5a353060d func68
def abb:aG E ⟨128,[.v cJ,.v cJ],[.bool],yr⟩:=aL (al GD (al y4 (al K1 aK))) 0xe1dc28060d func128
def adq:aG E ⟨48,[.v ry],[g9,.bool],Bi⟩:=aL (al y4 (al RD (al abb (al aba (al aa9 aK))))) 0x286e015c5c76ab098089573c77d37811a1d0e2dcc683f91d4becfbf8bd0a3f7978854424fce3b6f599cde11bc5e2a86c5f323954db90809efe4c71c1eb0c35415e14c0d func48
def abc:aG E ⟨129,[.v ry,.v eZ],[(.st (.pr g9 (.pr aH rx)))],Fc⟩:=aL (al KV aK) 0x30e9270c35817776ee3d4738a67ab9e5cef4f35be948beb48badf56e73f86d946cccff1a26c1f61178f4d124523363f16d2851b8aa48c71a85ed1b600a40200c948ac777552baa8f6c2b87fdc74306fd4738a8fddda959f755ad4fa46e4523ce29b6997b64843c29b060d func129
def abV:aG E ⟨215,[.v da],[.bool],E6⟩:=aL aK 0xd func215
def ac0:aG E ⟨327,[.m l6,.v fW,.v aH,.v da],[.bool],AZ⟩:=aL aK 0xf0a0adeb50e6ebf2ad86f23894c490c05e54378a0ea15fd25fdc59f62befaf164192b53d914ea3ec848c6fcc1d07e5ff17f3048ebc29b6c38a1d func327
def acN:aG E ⟨310,[.v fW,.v fW],[l6,fW],EQ⟩:=aL (al ac0 (al RO (al K7 (al Rx (al Rw (al wB aK)))))) 0x8018533076f68138afa4468455caba646cb0ef5eb57135662362eb2973e27ddf662dc5ad777b9f30707300b87b4fc6760442541cfdcc841408b7aa4b0073435a117078a8d19db7a041ff764ab4512376632f717034e2f76916e989ab7f9572c12fd09144376ae61f132820e232fbfd66ce941ce999e183ebce750674382ea6db060d func310
def acy:aG E ⟨283,[.v c7,.v c7],[c7,c7],EM⟩:=aL (al si (al acN (al ui (al B2 (al KW (al Gt (al B1 (al BZ aK)))))))) 0x30e09c6ce10f7629603d184fa07b598bb7eea1a2f7a71ee86ac9b72798e75c9567854fcc6cbe5057531e509956c92d833ce44cdb0cfcaeb9c2fe9f56e5ac9a0fe103d84f58ba6de0d646b9dc503b1eda889846cd2c3ca4648bc569171ac7ba4ba5a353060d func283
def acL:aG E ⟨309,[.v c7,.v c7,.v aH],[c7,aH,.bool],EV⟩:=aL (al si (al acy (al KX (al B0 aK)))) 0x7e8da900057e38b6338b88ce4bab90dd5954f761c98bff470f1566ea6c2860d func309
def acw:aG E ⟨281,[.v cJ,.v cJ,.v aH],[da],EZ⟩:=aL (al qU (al si (al acL (al Rj (al B2 aK))))) 0x22cea627a5bc3cf8668f1ec726fb9550b02ba73d3b961a4833f32a792d67b8db2a141d202d2ede8d4c2860d func281
def abW:aG E ⟨216,[.v cJ,.v cJ],[da],yo⟩:=aL (al acw aK) 0xe1dc28060d func216
def adB:aG E ⟨81,[.v cJ],[cJ],EU⟩:=aL (al uk (al qU (al Rf aK))) 0x2771e6eff1011974c90a38b2ee992d3a3536c0d func81
def GA:aG E ⟨29,[.v cJ,.v cJ],[cJ],tw⟩:=aL (al adB (al Lf aK)) 0x47b452bee004bcf2b753060d func29
def abr:aG E ⟨151,[.v da,.v da],[cJ],Be⟩:=aL (al y4 (al wC aK)) 0x648060d func151
def RU:aG E ⟨65,[.v kt],[cJ],vM⟩:=aL (al GA (al abr aK)) 0x5ec6547812c55d1cccdd4c0d func65
def abe:aG E ⟨131,[.v Df,.v ry,.v eZ,.v aH],[(.osl da)],vP⟩:=aL (al y4 (al RU (al GA (al wC (al abW (al abV aK)))))) 0x9359cbdc4041679b27a7b8e3a5e477c3e706aa3dc636352a2892be3ac84f784776a51e74d01df92ec712630c79c7aaf8fe27188cf11fbbf10cd2e9de355dd2c05c9e30e06c73502f869d4a16f8ba1a19a9c3143eb87085ee3fa24140a9f0323d691eb3090f3c666e8bd7cbaa909a8b3a40dfde2a85c83df4eda9664b9dec1afb1d4726300f89701337530e2860d func131
def abf:aG E ⟨132,[.v Df,.v aH,.v aH],[cJ],vO⟩:=aL (al Lf (al y4 (al wC aK))) 0x16e4a95a6d5179be45717353de6e6cb27a789fe28f446daae977becb2f0bf4c9e393777be1e35d4834f0744a2221a5eacedbf9045e25d05c5bb2b118c022bb69d113757d8c4d659e7b5ed625fcd043398d10aa56a8ca84936e8c98a48e46cd89dc6fc01ecb50f9e28dde8030c8aea0190f77c35ae3bb0bb96acccdd4c2860d func132
def adr:aG E ⟨49,[.v ry,.v eZ],[(.st (.pr g1 (.pr aH rx))),HP,.bool],yp⟩:=aL (al GA (al y2 (al abf (al abe (al Q7 (al abc (al KV aK))))))) 0x1faeda5578c63bf2ce499b7035ac67b129a8291b82076c2bf8bcd726c2abeea8d168e03562209936454c76fd0c1bb43ff6c1177dcfdd136b8fdd9c1f3284bb2e8bbab5e680705f5eb000b204a630dd2e0985688494bfc427e0c61aadebf8d721fafd8fa7025bc76f87da83c3a1fbed92a605da1c3373755841ffb0f15906cdca9c672ee9acacc34921dec58d67f7918f5bcc1efc8a0ea0812f2a91bce4c4562cd36da2f37d66a5a7274e43c5c6a71b90ccf2fd96aa6d322812cb2e1093546e10d4ff17997fb80ee6e6e56a8bf8eccdee75cdf13349b53e1acbd5c7cd5fdaea45f6861677acc06f367d386ef4a244a74359afd89b9444041fb45bd73902c0cf28f0499e4cb8eabf17257add45ea545e5374c4655e95f49dbc9cf2b2787d6b20cacb4deda272f1a72e5d04f43c62bc6cb24b27ccaae39318d7f9a801a4e9bc19d616ef25da6a3ecac18e9e7cbc7441085ad63d3ea4ffa6d6cd78c3bca2559b74cd6b0fea2572030688f4d48e6730692512844a6c0edbc3bd62b2c5ea896ca0e0e5edd686352b2a4a652ccf6c2db3841d59ed8437334f2c9252a5813916c65a3c3d83125ff49b060d func49
def ads:aG E ⟨50,[.v eZ,.v (.bb .dm Df),.v aH],[HO],Fb⟩:=aL aK 0x2baed8599d6aaea2c3d296b35625fc76031350393741c01449c7f1d904f9d34fc3feea03ad6914c95a023bbb35d537b8cc5e377ae078084c85bb5a559e444c92273d7a5f7a626c7bff5878d2bbf49561f23f7e5d86c74a7bc48211e39c3225f11377b28e873b1594846b50785bbbce5a4297cd4f4795550350e416fd2baae4466259609faa201ac40e20c634fc6de76e9bc72f9d4e88183d0b85641b34f02f4368aa3c034fc877bd175f26f94c5ae90fed073aae5aa1fcf13660a5818d2b56bfa75ff571a05fe21ad0050f1163e8fa9d846f86608eb0af3a89379e255581df4792c8b09f87a1c6d17bd91f21b284d3f9b1b2a30a726bf4bdd585aac507ede3426bdc0578f22a9b9a5bc985108872863c4f9d2516947190b026e417da9d3520f811fffea6eb023cc66e6d800e0fab9191c22fb94c5bd15c9ba3cbeedbf728e6eff761bb874e9744b646ef7a0c29ea13dee08786819a86e9f28939688ea80d24e0baefc779c621d65697c88df96dfc1190fbfb76b1a617e8a1192d064ce2be355c572508a13c046d2693f98553a24a786ef817d3361d9b057ae683f7c7169241c0cf658e13585cd7807c92264d9dad7d2932af6219df3a8af4631561bb08db6d644633625815c8f9cc1766770e1d5ca48536c2860d func50
def aa4:aG E ⟨12,[.v i4,.v eZ,.v k6],[z2,aH],nF⟩:=aL (al ads (al adr (al adq (al adp (al ado aK))))) 0xf2f1112d7c4eeba12535f2a4d350869664cf067e8ea4642a8df82efe32fffa6af373a2ec8f2394b0d2cc99d844b3e544a951d1ad88eebb83b1904644334816e531c5f08f2da780b353976b085aef0ac93197b296143cca8bdd23ad73a5039865dd3b875c1455d51d825cb5b5bde887769aed5c988f4fd669c82d27a0d8c047cf6e5216f0a6db6c2860d func12
def RB:aG E ⟨25,[.v eZ,.v eZ],[.bool],rN⟩:=aL aK 0x620a429b060d func25
def adu:aG E ⟨56,[.v kt,.v kt],[.bool],AU⟩:=aL aK 0x620a429b060d func56
def abi:aG E ⟨14,[.v mu,.v mu],[.bool],EH⟩:=aL (al adu (al RB aK)) 0xdc1c1b828060d func14
def adv:aG E ⟨57,[],[u7],Ow⟩:=aL aK 0x1922242481f808 func57
def abn:aG E ⟨145,[.v eZ],[.bool],II⟩:=aL aK 0x6ba8406adebe0e457cfca803730dfab114c8ffaf0a6c0d func145
def RX:aG E ⟨91,[.v mu],[g9,.bool],AM⟩:=aL aK 0xc302d214835e59c33ecf5c889fdad5548253bbaa9e0008a59765fa168b78f7c6be4461eb658c806f73051e642149806e533302c922fe578536c0d func91
def abo:aG E ⟨146,[.v mu,.v eZ],[.bool],D8⟩:=aL aK 0xc64b41340b9ba1fa37e849f6b4d70853c93229cdd3c1682924e1bf1d173eab756259241effc1a8258147968f010a29b060d func146
def Ld:aG E ⟨60,[.v mu],[Dh],x7⟩:=aL (al pS aK) 0xfa856eb86fb21de77a857001e286685c0e87254506c5130ed865cb76cff709115622d2991ff2578536c0d func60
def Lc:aG E ⟨59,[.v mu],[aH],rM⟩:=aL (al RX (al Le (al y3 (al Ld (al wz (al abo (al abn aK))))))) 0x628d0a0687afe1cf0c1d85dabb9570da4ab526cca7e92e48a0c96ff0de32fb7937b054bc8304f41a6c650aeee14c948776881bbe89f0904e1825ad7931391e9259175c244eb4043c805a6c0d func59
def abE:aG E ⟨19,[.v mu],[Dc,aH],D6⟩:=aL (al Le (al y3 (al Ld (al Lc aK)))) 0x2aba805712e59fcc08b81856eaab863ff361f2eea02073e38eea9a6a2ebad14b6e33244aae45c3fa536f6693878536c0d func19
def abp:aG E ⟨15,[],[.bool],EJ⟩:=aL (al adv (al RB (al abE (al Q5 aK)))) 0x84c21c1c17818 func15
def abq:aG E ⟨150,[.v eZ,.v aH,.v aH],[.bool],E8⟩:=aL aK 0x1285ec7824c2860d func150
def adx:aG E ⟨64,[.v mu],[.bool],Fe⟩:=aL (al abq aK) 0xc6440bec08e797d4c76c91160bef021277536c9a960a46986ed844658c9cc843f8fe0d1f202a5a6c0d func64
def Rp:aG E ⟨20,[.v mu],[aH],tD⟩:=aL (al RU (al adx (al RT (al y2 (al RD aK))))) 0x319102fb6326b5358af59cb81fc93a45d9ed4b5d88a887efa6275a022677a48b05a6c0d func20
def ady:aG E ⟨66,[.v mu],[oO,oO],E9⟩:=aL (al GD (al wC aK)) 0xb49fa863cb848e2f71c8c2c894ab8ef0889f284d795c59466a1e93133f1f5906687120cf2124460fb9050280c80d7b0640c19c5842704b0825fb99e97c32d8b2230efff1335f4444a3782f4cda063828006c8e1d7f5fe093dda40320ce43aaa52bb186c5e44e90a21a09885d01ee9d08d0d117afe05da0f4131f278f34e228c9d166b2f17282e91d81bb14a85d995e84a5e5d76f83d02ef527870864bc9b3d6760396d8fa1c7ba711ed45a158c9be436578536c0d func66
def RV:aG E ⟨67,[.v aH,.v aH],[oK],Bd⟩:=aL aK 0x8542b848060d func67
def abT:aG E ⟨21,[.v mu],[oK,aH],Bh⟩:=aL (al RW (al y4 (al RV (al ady (al Rp aK))))) 0x2cd9854da3319c45c5d0f87f8aa058a75afcb18cb869737dbcbb8f9fa19b722b5c1086149d292c8c1b8d8f47050374cdc62a80b031450a1e061c2270bca15ad3aad704ea790dba95963b69a643b3ab25d86660997d604ea62f00f848ac1585b0f49b57eb6c758eb9acacc7f92461274f9444ba62c35ddaa6181a1fb759889e375d653a4a92b93a46dd4d7989b3e96671eec48b63ee6c824ecb6a4ec2e24cc8f0d207b870cd22d9e2f0a6db6c0d func21
def adC:aG E ⟨82,[.v i4,.v eZ],[oK,aH],vq⟩:=aL (al RP (al KY (al Q6 aK))) 0xe249ee171d44ef370222a0934e40058285dad3b84d67a45a39f5b6ca49c35f3bb6605542d573ad2097206fefecfb904ec33036ab402216dfeec5855616e2c982d8af04d0af341fc5798d2b1906df3012f8a2f68525e65c68909d32178bac661e6861dc2a81def2cb09f6946c23a58ef9566ea6db060d func82
def adH:aG E ⟨92,[.v mu,.v aH],[(.mp cJ)],x9⟩:=aL (al y6 (al pS aK)) 0x332a2c8413172ee1b2e8ac2652ceb8b5d9bb1dc4677a42997c843c29b060d func92
def adI:aG E ⟨93,[.v (.bb .dm cJ)],[cJ],DL⟩:=aL (al B4 (al Gx (al Gw (al B3 (al wA aK))))) 0x5bff80774efbf19ff433df497ecfbb67efa8e6faf899326ef246bf13897c2de08f337ea1f5ef478579c75592d3623c0711d75923f4db3be199330a8cfacb4a59a4a4678536c0d func93
def adG:aG E ⟨89,[.v (.fm .dm cJ),.v (.fm .dm cJ),.v cJ,.v (.ptr .dm aH),.m (.optr oO)],[],tk⟩:=aL (al wD aK) 0x69ded764bb9e957df7542232c227cae0de1bb032c87bd3b29d736b8601968a5ef282754abe668deae3fae037921aac98dfb2d13027aa428cc4fb4b7325db0013bf2955bc53bc89f45aa0df4be7e2bd4ee85ba8b2f69a1e89728d98c21ee127b21874fa5b0e2860d func89
def UR:jP:=⟨34,[.v mu],[oK,aH],AG⟩
def ac8:aG E UR:=
 .q (al adI (al adH (al RX (al Ld (al Lc (al adG aK)))))) (.k [0] (.n (.n (.n (.n (.n (.n (.n (.t .none (.n (.o (.k [1,8,41] (.p ⟨[mI 2,mI 5,mI 6,(7,.s (.eM 89 [(.ref 5 []),(.ref 6 [])])),mI 40,CL 42],[(2,sU),(5,(.optr aH)),(6,(.optr oO)),(40,Dh)]⟩ (.x 0 ⟨[mI 2,mI 5,mI 6],[(2,sU),(5,(.optr aH)),(6,(.optr oO))]⟩) (.n (.n (.t (.x [42] ⟨[mI 2,mI 5,mI 6,(7,.s (.eM 89 [(.ref 5 []),(.ref 6 [])])),mI 40],[(2,sU),(5,(.optr aH)),(6,(.optr oO)),(40,Dh)]⟩) (.o (.n (.t .none (.d [.a,.a,.a,.a,.a,.c [1666] [1664],.c [1666] [1664,1665]]) (.n (.n (.t .none (.t .none (.d [.a,.a,.a,.a,.a,.a,.c [2210] [2208],.c [2210] [2208,2209]]) .l) .l)))))) .l))))))) (.n (.t .none (.n (.o (.k [96] (.p ⟨[mI 2,mI 14,(95,.s (.ref 6 [.deref])),CL 97],[(2,sU),(6,(.optr oO)),(14,sU)]⟩ (.x 2 ⟨[mI 2,mI 14],[(2,sU),(14,sU)]⟩) (.n (.n (.t .none (.o (.n (.d [.b [450,464],.b [464],.b [192],.b [192],.c [3362] [3360],.c [3392,3362,464,466] [3392,451],.b [450,464],.c [3392,464,466] [448,3392,3393]]))) .l))))))) .l))))))))))) func34 call34 [(1,M9),(2,oK),(21,oK),(5,aH),(28,oK),(32,oO),(6,oO),(8,g1),(12,(.fm .bo cJ)),(13,(.fm .bo cJ)),(14,oK),(94,oK)] [(8,37000),(12,52),(13,69)]
def adD:aG E ⟨84,[.v cJ],[cJ],DG⟩:=aL (al Gv (al wA aK)) 0x93c00cf192331ba6c0d func84
def acI:aG E ⟨30,[.v i4,.v mu],[cJ,aH],vy⟩:=aL (al Lg (al GC (al adD (al y6 (al adC (al Lc (al ac8 aK))))))) 0xcaf688eeeba1443cabca601a0290a245b7031871f1f9fb3a1e44542c1d32a9cdc24b72236e5847ac708198817c5c93b639c4725dfbc0bf74afb7b55c833de48eb9987a9291148c414e29c9c52d1b62caa0bdbab64829b3c29b6db060d func30
def ade:aG E ⟨36,[.v i4,.v eZ],[oK,aH],vL⟩:=aL (al RZ (al RY (al RV aK))) 0x2f1f47888af5e261328a69dd708c31ed426bf07301fba8cd70e0d4af9af313b8d36ee3dd89eec7de89049d96d49d8a44a291e1a41b70e1b245a878536db060d func36
def adE:aG E ⟨87,[.v HV,.v HV],[cJ],I1⟩:=aL (al Lh (al GA (al K1 aK))) 0x9572c5c52455f8e59ca036bdd2d6b5ceba4c8e6d58b7e9f6a567dd55951a91b9148c3846da65ed921543c29b060d func87
def acM:aG E ⟨31,[.v i4,.v mu],[cJ,aH],vN⟩:=aL (al adE (al ade (al abT (al Rp aK)))) 0x1e463e03d08fff000abe1f01e847ff84f8989f0f1920dc1ee28060d func31
def ab6:aG E ⟨243,[.v fW,.v fW],[.bool],IY⟩:=aL aK 0x620a429b060d func243
def abv:aG E ⟨176,[.v c7,.v c7],[.bool],IW⟩:=aL (al ab6 aK) 0xb1d628060d func176
def adF:aG E ⟨88,[.v cJ,.v cJ],[.bool],IX⟩:=aL (al abv aK) 0xe1dc28060d func88
def acV:aG E ⟨32,[.v cJ,.v cJ],[.bool],yg⟩:=aL (al adF (al qU aK)) 0xe1dc28060d func32
def xd:jP:=⟨7,[.v kt,.v aH,.v aH,.v aH,.v aH],[.bool],IZ⟩
def adz:aG E xd:=aL (al acV (al acM (al acI (al KZ (al y1 (al abp (al abi (al aa4 (al Q5 (al aaM aK)))))))))) 0xf803d08fff0012115f743bc7582f2705e460bc7c638e83f1907e2e048e2860d func7
end
def a2 (a:X):Z:=4294967296^a
def ak:ak7->Z
 |[]=>0
 |x::a=>x+4294967296*ak a
def aX (b:ak7):Prop:=∀a∈b,0<=a/\a<4294967296
def aX.nil:aX []:=λ_ a=>by cases a
theorem aX.cons {c:Z}:aX (c::a)↔(0<=c/\c<4294967296)/\aX a:=by
 constructor
 ·exactλe=>⟨e c (mU ..),λd b=>e d (ht _ b)⟩
 rintro⟨f,g⟩ d b;rcases gn.1 b with rfl|b
 ·exact f
 exact g d b
def aX.append {d:ak7}:aX (a++d)↔aX a/\aX d:=by
 constructor
 ·exactλe=>⟨λc b=>e c (oF _ b),λc b=>e c (lw _ b)⟩
 rintro⟨f,g⟩ c b;rcases hM.1 b with b|b
 ·exact f c b
 exact g c b
def aX.snoc {b:Z} (c:aX a) (d:0<=b) (e:b<4294967296):aX (a++[b]):=
 aX.append.2 ⟨c,aX.cons.2 ⟨⟨d,e⟩,aX.nil⟩⟩
def aX.take {a:ak7} (b:aX a) (d:X):aX (a.take d):=λe c=>b e (uT c)
def aX.drop {a:ak7} (b:aX a) (d:X):aX (a.drop d):=λe c=>b e (List.mem_of_mem_drop c)
theorem aX.mg (a:X):aX (bJ a (0:Z)):=λc b=>by grind
def aX.set {c:ak7} (d:aX c) {e:X} {b:Z} (g:0<=b) (h:b<4294967296):aX (c.set e b):=λf a=>by
 rcases List.mem_or_eq_of_mem_set a with a|rfl
 ·exact d f a
 omega
def aX.get (b:aX a) {n:X} (c:n<a.length):0<=a[n]/\a[n]<4294967296:=b _ (cK c)
theorem gm (a:X):0<a2 a:=mT ab
theorem iq (a:X):a2 (a+1)=4294967296*a2 a:=by unfold a2;omega
theorem uH (a b:X):a2 (a+b)=a2 a*a2 b:=l3 ..
theorem zE:a2 0=1:=rfl
theorem mM (a b:ak7):ak (a++b)=ak a+a2 a.length*ak b:=by
 induction a with
 |nil=>simp[ak,zE]
 |cons d a c=>
  grind [List.length_cons,iq,ak]
theorem q9 (a:ak7) (b:Z):ak (a++[b])=ak a+a2 a.length*b:=by grind [mM,ak]
theorem ff {l:ak7} (a:aX l):0<=ak l:=by
 induction l with
 |nil=>exact amb _
 |cons c l b=>
  grind [aX.cons,ak]
theorem ho (b:aX a):ak a<a2 a.length:=by
 induction a with
 |nil=>decide
 |cons d a c=>
  grind [List.length_cons,iq,aX.cons,ak]
theorem iU (c:b<a.length):ak (a.take (b+1))=ak (a.take b)+a2 b*a[b]:=by grind [q9,alj,amt,ct,bV]
theorem ph (b:ak7) (a:X) (c:a<=b.length):ak b=ak (b.take a)+a2 a*ak (b.drop a):=by grind [mM,alj,amt,amC]
theorem nk (c:b<a.length):ak (a.drop b)=a[b]+4294967296*ak (a.drop (b+1)):=by rw[zN c];rfl
theorem p0 (a:X):ak (bJ a (0:Z))=0:=by
 induction a with
 |zero=>rfl
 |succ a b=>grind [ak]
theorem nl (d:b<a.length) (c:Z):ak (a.set b c)=ak a+a2 b*(c-a[b]):=by
 induction a generalizing b with
 |nil=>grind
 |cons f a e=>
  grind [zE,iq,ak]
def vW:X->X->ak7
 |0,_=>[]
 |f+1,a=>if a=0 then[] else((a %4294967296:X):Z)::vW f (a/4294967296)
def e2 (a:X):ak7:=vW (Nat.log2 a+1) a
def fd (b:ak7):Prop:=∀a,b.getLast?=Y a->a≠0
theorem Xz:∀{a n:X},n<2^a->aX (vW a n)/\ak (vW a n)=n/\fd (vW a n):=by
 intro a
 induction a with
 |zero=>
  intro n b;obtain rfl:n=0:=aa;exact⟨aX.nil,bq,λc b=>by cases b⟩
 |succ a i=>
  intro n b;unfold vW;split
  ·rename_i g;subst g;exact⟨aX.nil,bq,λc b=>by cases b⟩
  rename_i k;obtain⟨h,j,d⟩:=i (n:=n/4294967296) aa;refine⟨aX.cons.2 ⟨⟨aa,aa⟩,h⟩,?_,?_⟩
  ·grind [ak]
  intro c f;cases e:vW a (n/4294967296) with
  |nil=>
   grind [List.getLast?_singleton,amD,ak]
  |cons m l=>
   rw[e,List.getLast?_cons_cons] at f;rw[e] at d;exact d c f
def Jj (a:X):aX (e2 a)/\ak (e2 a)=a/\fd (e2 a):=Xz Nat.lt_log2_self
theorem oZ (a:X):aX (e2 a):=(Jj a).1
theorem tG (a:X):ak (e2 a)=a:=(Jj a).2.1
def yy (a:X):fd (e2 a):=(Jj a).2.2
def fd.tail {d:Z} (b:fd (d::a)):fd a:=λe c=>by
 cases a with
 |nil=>cases c
 |cons f a=>exact b e ae
theorem fd.zero (e:aX a) (c:fd a) (d:ak a=0):a=[]:=by
 induction a with
 |nil=>rfl
 |cons h a g=>
  obtain⟨⟨i,j⟩,b⟩:=aX.cons.1 e;have k:=ff b;simp only[ak] at d;have f:h=0:=aa;have:=g b c.tail aa;subst this;subst f;exact absurd rfl (c 0 bq)
theorem fd.uniq:∀{a b:ak7},aX a->aX b->fd a->fd b->ak a=ak b->a=b
 |[],b,_,e,_,g,c=>(fd.zero e g (by rw[<-c];rfl)).symm
 |a,[],d,_,f,_,c=>fd.zero d f (by rw[c];rfl)
 |x::a,j::b,d,e,f,g,c=>by obtain⟨⟨k,l⟩,h⟩:=aX.cons.1 d;obtain⟨⟨m,n⟩,i⟩:=aX.cons.1 e;simp only[ak] at c;have o:x=j:=aa;have:=fd.uniq h i f.tail g.tail aa;grind
def XC (c:aX a) (d:fd a) (e:ak a=b):a=e2 b:=
 fd.uniq c (oZ b) d (yy b) (by rw[e,tG])
def fd.eq (b:aX a) (c:fd a):a=e2 (ak a).toNat:=
 XC b c (by have:=ff b;omega)
theorem fd.low (c:aX a) (f:fd a) (b:a≠[]):a2 (a.length-1)<=ak a:=by have d:=List.dropLast_concat_getLast b;have i:=f (a.getLast b) (List.getLast?_eq_some_getLast b);have j:=c _ (List.getLast_mem b);rw[<-d,q9];have k:=ff (l:=a.dropLast) (λh g=>c h (List.dropLast_subset _ g));have e:1<=a.getLast b:=aa;have m:=j2 e (fu (gm a.dropLast.length));grind
theorem aej {c:X} (e:b<c):a2 b<a2 c:=by obtain⟨a,rfl⟩:∃a,c=b+(a+1):=⟨c-b-1,aa⟩;rw[uH,iq];have f:=gm a;have d:=gm b;have g:1*a2 b<(4294967296*a2 a)*a2 b:=sG aa d;grind
theorem pV {m n:X} (b:m<=n):a2 m<=a2 n:=by
 rcases cY m n with a|a
 ·exact fu (aej a)
 grind
theorem rX {n k:X} (d:(n:Z)<a2 k):(e2 n).length<=k:=by
 by_cases c:e2 n=[]
 ·grind
 have a:=fd.low (oZ n) (yy n) c;rw[tG] at a;rcases cY k (e2 n).length with b|b
 ·have:=pV (m:=k) (n:=(e2 n).length-1) aa;omega
 omega
theorem OV (a:X):(a:Z)<a2 (e2 a).length:=by have:=ho (oZ a);grind [tG]
def Jk:e2 0=[]:=rfl
theorem XB:e2 b=[]↔b=0:=by
 constructor
 ·grind [tG,ak]
 rintro rfl;rfl
def iT (a:ak7):ak7:=e2 (ak a).toNat
theorem T6 (f:aX a) (j:b<=a.length) (h:∀c,b<=c->(i:c<a.length)->a[c]=0) (g:fd (a.take b)):a.take b=iT a:=by have d:ak a=ak (a.take b):=(by have e:a.drop b=bJ (a.length-b) 0:=(by refine xi ac λc d e=>?_;grind);grind [ph,p0]);rw[iT,d];exact fd.eq (f.take b) g
def Mi (a:ak7):aX (iT a):=oZ _
def T5 (a:ak7):fd (iT a):=yy _
theorem Mj (b:aX a):ak (iT a)=ak a:=by have:=ff b;grind [tG,iT]
theorem T4 (b:aX a):(iT a).length<=a.length:=by have c:=ho b;have:=ff b;exact rX aa
def Yy {b d:bp c} (g:b.length=d.length) (f:∀a,a<b.length->b[a]?=d[a]?):b=d:=by
 apply ig;intro a;rcases cY a b.length with e|e
 ·exact f a e
 rw[pn e,pn aa]
theorem C2 (a c:ak7) (o:a.length<4611686018427387904):rN (a,c,())=Y (a==c,()):=by
 rw[<-bQ];unfold rN;simp only[b0,bY,bu];refine⟨λd=>?_,λd=>?_⟩
 ·simp at d;have:a≠c:=λf=>d (by rw[f]);simp[this]
 simp at d;have m:a.length=c.length:=aa;refine ah.for (i0:=0) a.length (λe _=>∀b,b<e->a[b]?=c[b]?) rfl ac (dj _) ?_ ?_
 ·intro e n _ k g;simp only[b0,bY,bu,ale];refine⟨λ_=>⟨k,aa,λl=>?_,λj=>?_⟩,λh=>?_⟩
  ·simp at l;have:a≠c:=λf=>l (by simp[f]);simp[this]
  ·refine⟨js aa,λb p=>?_⟩;rcases cY b e with i|i
   ·exact g b i
   obtain rfl:b=e:=aa;simp at j;rw[bh k,bh aa,j]
  simp at h;omega
 intro n g;simp only[b0,bY,bu];refine⟨λh=>by simp at h,λ_=>?_⟩;simp[Yy m g]
theorem uz {a:bp c} (d:b<a.length):a.take b++[a[b]]=a.take (b+1):=by rw[hA,bh d];rfl
theorem B6:a.Pairwise (· < ·)↔∀d,(e:d+1<a.length)->a[d]<a[d+1]:=by
 constructor
 ·intro e d k;exact(it.1 e) d (d+1) aa k aa
 intro e;rw[it];have m:∀c b (f:b<a.length) (g:b+c+1<a.length),a[b]<a[b+c+1]:=by
  intro c
  induction c with
  |zero=>intro b f g;exact e b g
  |succ c l=>
   intro b f g;have i:=l b f aa;have j:=e (b+c+1) aa;exact Int.lt_trans i j
 intro b h f g n;obtain⟨c,rfl⟩:∃c,h=b+c+1:=⟨h-b-1,aa⟩;exact m c b f g
def MC (b:ak7) (r:b.length<4611686018427387904):AT (b,())=Y (bz (b.Pairwise (· < ·)),()):=by
 rw[<-bQ];unfold AT;simp only[bY];by_cases k:b.length=0
 ·have:b=[]:=List.length_eq_zero_iff.1 k;subst this;refine als (λo=>o=(1,())) (λ_=>0) rfl ?_;rintro _ rfl;simp[bu]
 refine ah.for (i0:=1) b.length (λc _=>∀a,(j:a+1<b.length)->a+1<c->b[a]<b[a+1]) rfl (λa _ j=>by omega) aa ?_ ?_
 ·rintro c _ p l e;simp only[b0,bY,bu,ale];have i:bO.wrap ((c:Z)-1)=((c-1:X):Z):=(by rw[cx aa aa];omega);rw[i];refine⟨λ_=>⟨l,?_⟩,λf=>?_⟩
  ·rw[ale];refine⟨aa,?_⟩;refine⟨λm=>?_,λh=>⟨js aa,λa d q=>?_⟩⟩
   ·have:¬b.Pairwise (· < ·):=λn=>by
     have:=B6.1 n (c-1) aa;simp only[(aa:c-1+1=c)] at this;simp at m;omega
    simp[this]
   rcases cY (a+1) c with g|g
   ·exact e a d g
   obtain rfl:c=a+1:=aa;simp at h;exact h
  simp at f;omega
 intro s e;simp only[b0,bY,bu];refine⟨λf=>by simp at f,λ_=>?_⟩;have:b.Pairwise (· < ·):=B6.2 (λa d=>e a d d);simp[this]
theorem fq (b:bp c) (a:X):aq b (a:Z)=b[a]?:=by unfold aq;simp
end Go.l0
end
