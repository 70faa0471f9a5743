/-
  Parts of the proof: Fw21: the framework (Fw), pure forms (Dn), plain laws (Pl, Th), calls of functions (Ok).
-/
import Derived.Test.YthlmgdleldkpnaaGreatDoorB0076c6fb

set_option linter.all false
set_option maxHeartbeats 1000000
open _root_ renaming Nat->X,List->bp,Bool->bD,rfl->bq,Array->bW,cond_true->bI,cond_false->bQ
open Go renaming World->bF,Oper->bU,Operand->bO,execOp->bP,resolve->anf
open Option renaming some->Y,none->br
open Bool renaming false->bu,true->bt
open Go.j5.dm renaming refl->cu
open Go.j5.aZ renaming here->aoa
open Go.Sem renaming run_bind->b0,run_pure->cz
open Go.Result renaming andThen_ok->b4
open Go.Oper renaming wp->amH
noncomputable section
namespace Go.j5
section
def oh (d:X) (st:aR) (c:bp ao) (b:bp h1) (a:bp aI):bD:=
 kh (gF c b)&&kh ((kM c b++jI d (jE a) 0 a).map (·.1))&&(jI d (jE a) 0 a).all λe=>(ax st.h e.1).isNone
section
variable {E:fP} {C:fg} {st:aR} {a:Act} {w w':bF} {I I' B':X->Prop} {rt:X->amo} {fp:X->amu}
theorem Qj {rt:X->amo} {l:amu} {b:bp (X×aI)}:∀{as:bp ao} {bs:bp h1} {gs:ey},pA b l as bs->gs.length=bs.length->∀id∈nk as bs,∃e∈hx rt as bs gs,e.1=id/\ax b id=Y ⟨e.2.1.1,(match ax b id with|some h=>if i:h.1=e.2.1.1 then i▸h.2 else e.2.1.2|none=>e.2.1.2)⟩
 |[],bs,gs,_,_,id,b=>by cases bs<;>cases b
 |a::as,[],gs,f,_,id,b=>by cases a<;>exact f.elim
 |a::as,c::bs,[],_,k,id,b=>by cases k
 |a::as,c::bs,o::gs,f,k,id,b=>by
  have d:=Qj (rt:=rt) (as:=as) (bs:=bs) (gs:=gs) f.2 ae id;have j:=f.1;cases a with
  |ref n g=>cases g with
   |nil=>
    cases c with
    |m h t=>
     simp only[nk,fH] at b;simp only[hx];rcases b with rfl|b
     ·refine⟨_,jQ ..,bq,?_⟩;rw[j.1];simp
     grind
    |_=>exact d b
   |cons=>cases c<;>exact d b
  |view n g q i=>cases g with
   |nil=>
    cases c with
    |w v s r p u=>
     simp only[nk,fH] at b;simp only[hx];rcases b with rfl|b
     ·refine⟨_,jQ ..,bq,?_⟩;rw[j.1];simp
     grind
    |_=>exact d b
   |cons=>cases c<;>exact d b
  |_=>cases c<;>exact d b
theorem Ib {d e f:Type} {g:d->e->f->Prop}:∀{as:bp d} {c:bp e} {cs:bp f},m9 g as c cs->c.length=as.length/\cs.length=as.length
 |[],c,cs,b=>by cases c<;>cases cs<;>first|exact⟨bq,bq⟩|exact b.elim
 |a::as,[],cs,b|a::as,h::c,[],b=>b.elim
 |a::as,h::c,i::cs,b=>by obtain⟨j,k⟩:=Ib b.2;grind
theorem aa9 {a:bp (X×C5)} (c:((a.map λb=>b.2.2.2).flatten).Nodup):(∀b∈a,b.2.2.2.Nodup)/\∀d e g h,ax a d=Y g->ax a e=Y h->d≠e->∀j∈g.2.2,j∉h.2.2:=by
 induction a with
 |nil=>exact⟨ac,λd e g h c=>by cases c⟩
 |cons l a r=>
  obtain⟨z,l⟩:=l;simp only[hA,my,jR] at c;obtain⟨s,m,t⟩:=c;obtain⟨i1,x⟩:=r m;refine⟨λb w=>?_,λd e g h o p v j u=>?_⟩
  ·grind
  rw[eJ] at o p;have y:∀i f,ax a i=Y f->∀k∈f.2.2,k∈(a.map λb=>b.2.2.2).flatten:=λi f q k n=>mB.2 ⟨_,eT.2 ⟨(i,f),BJ q,bq⟩,n⟩;grind
def F6 {e:Type}:∀{c:bp (X×e)},(c.map (·.1)).Nodup->∀{b:X×e},b∈c->ax c b.1=Y b.2
 |[],_,b,a=>by cases a
 |(k,x)::c,d,b,a=>by
  simp only[hA,kS] at d;rw[eJ];rcases fH.1 a with rfl|a
  ·rw[ay bq]
  rw[aw (λf=>d.1 ae)];exact F6 d.2 a
theorem S6 {e:X} {g:bD}:∀{j:X} {f:bp aI} {a:X} {c:ao},(wR e g j f)[a]?=Y c->∃b,f[a]?=Y b/\c=(bif b.1.pure then .val b.1 b.2 else .ref (sN e g (j+a)) [])
 |j,[],a,c,d=>by grind [wR]
 |j,b::k,a,c,d=>by
  simp only[wR] at d;cases a with
  |zero=>grind
  |succ a=>
   obtain⟨l,h,i⟩:=S6 (by simpa using d);grind
theorem S7 {b:X} {c:bD}:∀{j:X} {a:bp aI},(wR b c j a).length=a.length
 |j,[]=>rfl
 |j,e::d=>by simp[wR,S7]
theorem Tc {d:X} {s:bD}:∀{j:X} {res:bp aI} {cs:et} {hs:ey},cs.length=res.length->hs.length=res.length->∀(a:X) b c e,res[a]?=Y b->cs[a]?=Y c->hs[a]?=Y e->b.1.pure=bu->(sN d s (j+a),(b,c,e))∈lT d s j res cs hs
 |j,[],cs,hs,_,_,a,b,c,e,ar,_,_,_=>by grind
 |j,b::f,[],hs,g,_,_,_,_,_,_,_,_,_=>by cases g
 |j,b::f,c::cs,[],_,h,_,_,_,_,_,_,_,_=>by cases h
 |j,b::f,c::cs,e::hs,g,h,a,m,i,k,ar,n,o,l=>by
  simp only[lT];cases a with
  |zero=>
   grind
  |succ a=>
   have:=Tc (d:=d) (s:=s) (j:=j+1) (res:=f) (cs:=cs) (hs:=hs) ae ae a m i k ae ae ae l;grind
end
section
variable {E:fP} {C:fg} {st:aR} {A:bW bU} {Q:aR->Prop}
theorem Ue {i:bp (X×aI)} {j:amu}:∀{as:bp ao} {bs:bp h1},pA i j as bs->∀id∈gF as bs,∃h,ax i id=Y h
 |[],bs,_,id,b=>by cases bs<;>cases b
 |a::as,[],e,id,b=>by cases a<;>exact e.elim
 |a::as,c::bs,e,id,b=>by
  have d:=Ue (as:=as) (bs:=bs) e.2 id;have f:=e.1;cases a with
  |ref k g=>cases g with
   |nil=>
    cases c with
    |m h s=>
     simp only[gF,fH] at b;rcases b with rfl|b
     ·exact⟨_,f.1⟩
     grind
    |o h=>
     simp only[gF,fH] at b;rcases b with rfl|b
     ·exact⟨_,f⟩
     grind
    |_=>exact d b
   |cons=>cases c<;>exact d b
  |view k g p l=>cases g with
   |nil=>
    cases c with
    |w u r q n t=>
     simp only[gF,fH] at b;rcases b with rfl|b
     ·exact⟨_,f.1⟩
     grind
    |_=>exact d b
   |cons=>cases c<;>exact d b
  |_=>cases c<;>exact d b
theorem Ld {s:eB} {w:bF} {I:X->Prop} {rt:X->amo} {fp:X->amu} (e:cW C st s w I rt fp):∀{a:amu},(∀id∈a,∃b,ax st.h id=Y b)->a.Nodup->((a.map fp).flatten).Nodup
 |[],_,_=>by simp
 |id::a,d,f=>by rw[kS] at f;simp only[hA,my,jR];obtain⟨b,g⟩:=d id ac;refine⟨(e.tree id b g).2.1,Ld e (λq u=>d q ae) f.2,λj m t n c=>?_⟩;subst c;obtain⟨v,k,l⟩:=mB.1 n;obtain⟨i,o,rfl⟩:=eT.1 k;obtain⟨r,p⟩:=d i ae;exact e.dis id i b r g p (λc=>f.1 (c▸o)) j m l
def VD (e:eM->X->Prop) (w:bF) (c:X) (b:bp aI) (f:X->amo) (g:Value):Prop:=
 ∀(d:bp (X×aI)) (rt:X->amo) (fp:X->amu),(∀a∈jI c (jE b) 0 b,ax d a.1=Y a.2/\rt a.1=f a.1)->c0 e w d rt fp (wQ c b) g
def cW.glob {E:fP} {C:fg} {st:aR} {f:eB} {w:bF} {I:X->Prop} {rt:X->amo} {fp:X->amu} (b:cW C st f w I rt fp) (d:∀a,C.I0 a\/C.B a->a<C.w0.heap.size/\¬C.F0 a) (e:lY E C.I0 C.w0):lY E I w:=
 e.mono b.i0 λa c=>b.frame a (d a (.inl c)).1 (d a (.inl c)).2
theorem cW.call {C:fg} {st:aR} {gi:eB} {w:bF} {I:X->Prop} {rt:X->amo} {fp:X->amu} (G:cW C st gi w I rt fp) {m ce:X} {n:bp ao} {R:amo} (c1:i5 (c0 (bi I C.B) w st.h rt fp) n R) {l:bp h1} {g:bp aI} (fl:s9 E ce l g) (T:pA st.h (gF n l) n l) (a0:oh m st n l g=bt) (f8:∀F:ey,(∀e∈F.flatten,∃id c,ax st.h id=Y c/\e∈fp id)->Nj w R F (qi 0 l)) (el:lY E I w):Calls E.P ce R.toArray w (λM w'=>∃I' H O cF,M=.returned (rx cF)/\ob C st w w' I I' rt fp (gF n l) (yE (nk n l)) (kM n l++jI m (jE g) 0 g) H O/\VD (bi I' C.B) w' m g H (rx cF)):=by
 simp only[oh,cJ,hk] at a0;obtain⟨⟨c2,dg⟩,ix⟩:=a0;have c2:=kh.ok c2;have dg:=kh.ok dg
 let u:=gF n l
 let B':X->Prop:=λe=>C.B e\/∃id c,ax st.h id=Y c/\e6 id u=bu/\e∈fp id
 have d9:∀e,C.B e->B' e:=λe k=>.inl k;have ek:∀id c,ax st.h id=Y c->e6 id u=bu->∀e∈fp id,B' e:=λid c x o e k=>.inr ⟨id,c,x,o,k⟩;obtain⟨F,fs,ic⟩:=NS G (B':=B') (S:=u) d9 ek (args:=l) c1 T;have i1:∀id∈u,∃c,ax st.h id=Y c:=λid v=>Ue T id v;have U:∀e∈F.flatten,∃id∈u,∃c,ax st.h id=Y c/\e∈fp id:=ae;have ft:F.flatten.Nodup:=(by grind [Ld]);have fn:=fl w I B' R F (λe k=>by
  rcases k with k|k|⟨id,c,x,_,k⟩
  ·exact G.ib e (.inl k)
  ·exact G.ib e (.inr k)
  ·exact((G.tree id c x).2.2 e k).2.2.1) fs ft (λe k=>by
  obtain⟨id,v,c,x,ap⟩:=U e k;obtain⟨aB,d4,bs,bj⟩:=(G.tree id c x).2.2 e ap;refine⟨aB,?_,bs⟩;rintro(z|⟨d2,ad,f9,o,ex⟩)
  ·grind
  ·have f5:id≠d2:=λM=>(by grind [hH]);exact G.dis id d2 c ad x f9 f5 e ap ex) (f8 F λe k=>by
  grind) el
 refine fn.mono ?_;rintro M w' ⟨I',D,A,cF,rfl,p⟩;obtain⟨J,a3,a4,i3,d0⟩:=S9 p.res;have fz:=(Ib p.args).2;have cv:pA st.h u n l:=T
 let q:bp (X×C5):=hx rt n l D++lT m (jE g) 0 g J A
 have hr:q.map (λb=>(b.1,b.2.1))=kM n l++jI m (jE g) 0 g:=(by grind [Sq,GU]);have cs:(q.map (·.1)).Nodup:=ae;have ii:((hx rt n l D).map (λb=>b.2.2.2)).flatten=D.flatten:=Sp cv p.args;have io:((lT m (jE g) 0 g J A).map (λb=>b.2.2.2)).flatten.Sublist A.flatten:=Ta;have co:((q.map λb=>b.2.2.2).flatten).Sublist (D.flatten++A.flatten):=ae;obtain⟨hs,gt⟩:=aa9 (p.nd.sublist co);have f6:∀b∈hx rt n l D,aW (bi I' C.B) w' b.2.1.1 b.2.2.1 b.2.1.2 b.2.2.2/\b.2.2.1=rt b.1/\b.1∈u/\∃c,ax st.h b.1=Y c/\b.2.1.1=c.1:=(by exact Sr G (S:=u) (args:=l) (gs:=D) c1 T p.args);have eq:∀b∈q,aW (bi I' C.B) w' b.2.1.1 b.2.2.1 b.2.1.2 b.2.2.2/\(b.1∈u\/ax st.h b.1=br):=by
  intro b y;rcases hl.1 y with y|y
  ·grind
  obtain⟨f,ar,N,am⟩:=Tb a3 a4 b y;have f2:f<cF.length:=ae;obtain⟨_,Q⟩:=d0 f _ _ _ cF[f] ar N am ac;refine⟨Q.mono (λbl e o=>⟨?_,cu _ _⟩) (λe _=>cu _ _),.inr ?_⟩
  ·cases bl
   ·exact o
   exact o.elim .inl (λz=>z.elim)
  have o:(b.1,b.2.1)∈jI m (jE g) 0 g:=(by grind [GU]);grind [Option.isNone_iff_eq_none]
 have em:∀b∈q,∀e∈b.2.2.2,e∈D.flatten++A.flatten:=λb y e k=>co.subset (mB.2 ⟨_,eT.2 ⟨b,y,bq⟩,k⟩);have dl:∀f,ax (kM n l++jI m (jE g) 0 g) f=(ax q f).map (·.1):=λf=>by grind [QH]
 let H:X->amo:=λf=>match ax q f with|some b=>b.2.1|none=>[]
 let O:X->amu:=λf=>match ax q f with|some b=>b.2.2|none=>[]
 have gc:ob C st w w' I I' rt fp u (yE (nk n l)) (kM n l++jI m (jE g) 0 g) H O:=
  ⟨p.size,p.os,p.tape,p.output,λe k hv=>p.heap e k (λfr=>by obtain⟨id,v,c,x,ap⟩:=U e fr;grind),p.evo,p.i,(λe k=>by
    rcases p.i2 e k with z|⟨K,L|L⟩
    ·grind
    ·omega
    exact .inr ⟨K,.inr (U e L)⟩),
   (λid c v=>by
    rw[dl] at v;cases an:ax q id with
    |none=>grind
    |some b=>
     rw[an] at v;obtain rfl:b.1=c:=gn v;have o:=BJ an;obtain⟨K,L⟩:=eq _ o;refine⟨L,ae,ae,λe k=>?_⟩;simp only[O,an] at k;obtain⟨aB,d4,bs,bj⟩:=p.N5 e (em _ o e k);exact⟨aB,bs,bj.imp (λz=>z) (U e)⟩),
   (λV d5 c kg f0 f1 is e k=>by
    rw[dl] at f0 f1;cases hc:ax q V with
    |none=>grind
    |some i8=>
     cases hi:ax q d5 with
     |none=>grind
     |some jp=>
      grind),
   (λd6 av c x=>by
    obtain⟨id,v,rfl⟩:=eT.1 av;obtain⟨b,y,M,_⟩:=Qj (rt:=rt) cv fz id v;subst M;have o:b∈q:=oW _ y;have i0:=F6 cs o;obtain⟨_,L,_,ad,ci,d8⟩:=f6 b y;rw[x] at ci;obtain rfl:=gn ci;exact⟨b.2.1,ae,d8,ae,⟨c.1,by cases c.1<;>rfl⟩,λb _ _ _ a0=>by grind [FY]⟩),
   (λd6 av c x b _ _ _ _ _ hw=>by
    obtain⟨id,v,rfl⟩:=eT.1 av;grind [v2])⟩
 refine⟨I',H,O,cF,bq,gc,λK ge d7 fT=>?_⟩;have d3:∀(f:X) (c:aI) (r:Value),g[f]?=Y c->cF[f]?=Y r->c0 (bi I' C.B) w' K ge d7 (bif c.1.pure then .val c.1 c.2 else .ref (sN m (jE g) (0+f)) []) r:=by
  intro f c r ar N;have f2:f<g.length:=(iv.1 ar).1;obtain⟨am,Q⟩:=d0 f c J[f] A[f] r ar ac ac N;subst am;cases ds:c.1.pure with
  |true=>
   simp only[bI];have:=Q.pure ds;rw[this] at Q;refine .val (Q.mono (λbl e o=>⟨?_,cu _ _⟩) ac);cases bl
   ·exact o
   exact o.elim .inl (λz=>z.elim)
  |false=>
   simp only[bQ];have f3:=Tc (d:=m) (s:=jE g) (j:=0) a3 a4 f c J[f] A[f] ar ac ac ds;have o:(sN m (jE g) (0+f),(c,J[f],A[f]))∈q:=kB _ f3;have f4:(sN m (jE g) (0+f),c)∈jI m (jE g) 0 g:=(by rw[<-GU (d:=m) (s:=jE g) (j:=0) a3 a4];grind);obtain⟨aB,d4⟩:=fT _ f4;refine .ref (t:=c) (loc:=br) aB ?_;have go:H (sN m (jE g) (0+f))=J[f]:=(by simp only[H,F6 cs o]);grind [aoa]
 cases d1:g with
 |nil=>
  have:cF=[]:=qv ae;subst this;exact .fx (vs:=#[]) rfl (λV a r z=>by grind)
 |cons c bx=>
  cases bx with
  |nil=>
   obtain⟨r,rfl⟩:∃r,cF=[r]:=qB.1 ae;have:=d3 0 c r ae bq;rw[d1] at this;exact this
  |cons gf bx=>
   have f7:rx cF=.tuple cF.toArray:=by
    have:cF.length=(c::gf::bx).length:=by grind
    match cF,this with
    |v1::fy::kd,_=>rfl
   rw[f7];refine .fx (by grind [S7]) (λV gl r K L=>?_);obtain⟨ad,ar,N⟩:=S6 K;have:=d3 V ad r ae ae;rw[d1] at this;rw[N];exact this
theorem Td {a:X} {d:bD} {c:bp aI} {e:bp (X×aI)} (f:((e++jI a d 0 c).map (·.1)).Nodup):∀b∈jI a d 0 c,ax (e++jI a d 0 c) b.1=Y b.2:=
 λb g=>F6 f (kB _ g)
theorem fi.call {Q:aR->Prop} {j d:X} {l:bU} {f:bO} {c:bp ao} {b s:bW _} (K:l.op=.call {callee:=.value f,args:=b,argTypes:=s}) (S:aX st.g f=.eG d c) (G:l.dst=Y j) (H:C.ok j) (an:∀(r:eB) (w:bF),(callFunc d r).run E.P w=.ok (.enter d r) w) {i:bp h1} {n:bp aI} (D:s9 E d i n) (N:qi 0 i=br) (x:∀m,C.I0 m\/C.B m->m<C.w0.heap.size/\¬C.F0 m) (y:lY E C.I0 C.w0) (z:pA st.h (gF (b.toList.map (aX st.g)++c) i) (b.toList.map (aX st.g)++c) i) (p:oh j st (b.toList.map (aX st.g)++c) i n=bt) (u:Q (WS j st (b.toList.map (aX st.g)++c) i n)):fi E C l st Q:=by
 rintro a w ⟨I,rt,fp,k⟩ next T J
 obtain⟨e,R,v⟩:∃e:eB,a.eval f=.func (.func d) #[] e/\i5 (c0 (bi I C.B) w st.h rt fp) c e.toList:=by
  have o:=k.aX f;rw[S] at o;generalize bl:a.eval f=ce at o;cases o with|eG a0 ap=>
  grind [Aa]
 have A:i5 (c0 (bi I C.B) w st.h rt fp) (b.toList.map (aX st.g)++c) (b.toList.map a.eval++e.toList):=H9 (Ia (λf=>k.aX f) _) v;have F:=k.call A D z p (λ_ _=>by rw[N];trivial) (k.glob x y);generalize am:b.toList.map (aX st.g)++c=U at*;have M:(bP a.eval l).run E.P w=.ok (.enter d (b.toList.map a.eval++e.toList).toArray) w:=(by have ar:b.map a.eval=(b.toList.map a.eval).toArray:=ae;have t:(b.toList.map a.eval++e.toList).toArray=(b.toList.map a.eval).toArray++e:=ac;rw[t];simp only[bP,K,anf,ar,b0,R,Deferred.ofValue,cz,b4,invoke,Array.empty_append,Array.append_empty];grind);unfold amH;rw[M];show Calls E.P d _ w _;refine F.mono ?_;rintro V w' ⟨I',bx,ad,cF,rfl,O,L⟩;show next (a.put l.dst (rx cF)) w'
 rw[G];have q:=p;simp only[oh,cJ] at q;have a3:=kh.ok q.1.2;refine J _ _ _ u bq ⟨I',_,_,(k.eK O).put H (av:=wQ j n) (L _ _ _ (λbs a4=>?_))⟩;grind [lp,Td,fC]
end
end
end Go.j5
end
