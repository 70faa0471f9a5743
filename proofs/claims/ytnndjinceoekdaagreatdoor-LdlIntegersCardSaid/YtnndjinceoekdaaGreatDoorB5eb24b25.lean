/-
  Parts of the proof: Fw21: the framework (Fw), pure forms (Dn), plain laws (Pl, Th), calls of functions (Ok).
-/
import Derived.Test.YtnndjinceoekdaaGreatDoorB8f6d6c5a

set_option linter.all false
set_option maxHeartbeats 1000000
open _root_ renaming Nat->X,List->bm,Bool->bz,rfl->bn,Array->bT,cond_true->bF,cond_false->bP
open Go renaming World->bC,Oper->bQ,Operand->bL,execOp->bM,resolve->alW
open Option renaming some->Y,none->bo
open Bool renaming false->bq,true->bp
open Go.jN.dd renaming refl->cp
open Go.jN.aZ renaming here->amR
open Go.Sem renaming run_bind->bW,run_pure->ct
open Go.Result renaming andThen_ok->b1
open Go.Oper renaming wp->alk
noncomputable section
namespace Go.jN
section
def n6 (d:X) (st:aR) (c:bm ak) (b:bm hP) (a:bm aE):bz:=
 j0 (gA c b)&&j0 ((kw c b++jz d (jv a) 0 a).map (·.1))&&(jz d (jv a) 0 a).all λe=>(aq st.h e.1).isNone
section
variable {E:fM} {C:e7} {st:aR} {a:Act} {w w':bC} {I I' B':X->Prop} {rt:X->ez} {fp:X->ak9}
theorem PZ {rt:X->ez} {l:ak9} {b:bm (X×aE)}:∀{as:bm ak} {bs:bm hP} {gs:et},po b l as bs->gs.length=bs.length->∀id∈m7 as bs,∃e∈hk rt as bs gs,e.1=id/\aq b id=Y ⟨e.2.1.1,(match aq b id with|some h=>if i:h.1=e.2.1.1 then i▸h.2 else e.2.1.2|none=>e.2.1.2)⟩
 |[],bs,gs,_,_,id,b=>by cases bs<;>cases b
 |a::as,[],gs,f,_,id,b=>by cases a<;>exact f.elim
 |a::as,c::bs,[],_,k,id,b=>by cases k
 |a::as,c::bs,o::gs,f,k,id,b=>by
  have d:=PZ (rt:=rt) (as:=as) (bs:=bs) (gs:=gs) f.2 (by grind) id;have j:=f.1;cases a with
  |ref n g=>cases g with
   |nil=>
    cases c with
    |m h t=>
     simp only[m7,fF] at b;simp only[hk];rcases b with rfl|b
     ·refine⟨_,jd ..,bn,?_⟩;rw[j.1];simp
     grind
    |_=>exact d b
   |cons=>cases c<;>exact d b
  |view n g q i=>cases g with
   |nil=>
    cases c with
    |w v s r p u=>
     simp only[m7,fF] at b;simp only[hk];rcases b with rfl|b
     ·refine⟨_,jd ..,bn,?_⟩;rw[j.1];simp
     grind
    |_=>exact d b
   |cons=>cases c<;>exact d b
  |_=>cases c<;>exact d b
theorem HR {e f g:Type} {h:e->f->g->Prop}:∀{as:bm e} {c:bm f} {d:bm g},mY h as c d->c.length=as.length/\d.length=as.length
 |[],c,d,b=>by cases c<;>cases d<;>first|exact⟨bn,bn⟩|exact b.elim
 |a::as,[],d,b=>b.elim
 |a::as,i::c,[],b=>b.elim
 |a::as,i::c,j::d,b=>by obtain⟨k,l⟩:=HR b.2;grind
theorem aaO {a:bm (X×CF)} (c:((a.map λb=>b.2.2.2).flatten).Nodup):(∀b∈a,b.2.2.2.Nodup)/\∀d e g h,aq a d=Y g->aq a e=Y h->d≠e->∀j∈g.2.2,j∉h.2.2:=by
 induction a with
 |nil=>exact⟨ac,λd e g h c=>by cases c⟩
 |cons l a r=>
  obtain⟨z,l⟩:=l;simp only[gL,mi,iI] at c;obtain⟨s,m,t⟩:=c;obtain⟨i1,x⟩:=r m;refine⟨λb w=>?_,λd e g h o p v j u=>?_⟩
  ·grind
  rw[eC] at o p;have y:∀i f,aq a i=Y f->∀k∈f.2.2,k∈(a.map λb=>b.2.2.2).flatten:=λi f q k n=>mj.2 ⟨_,eS.2 ⟨(i,f),Bp q,bn⟩,n⟩;grind
theorem FL {e:Type}:∀{c:bm (X×e)},(c.map (·.1)).Nodup->∀{b:X×e},b∈c->aq c b.1=Y b.2
 |[],_,b,a=>by cases a
 |(k,x)::c,d,b,a=>by
  simp only[gL,j4] at d;rw[eC];rcases fF.1 a with rfl|a
  ·rw[au bn]
  rw[ar (λf=>d.1 (by grind))];exact FL d.2 a
theorem SD {e:X} {g:bz}:∀{j:X} {f:bm aE} {a:X} {c:ak},(wG e g j f)[a]?=Y c->∃b,f[a]?=Y b/\c=(bif b.1.pure then .val b.1 b.2 else .ref (sw e g (j+a)) [])
 |j,[],a,c,d=>by grind [wG]
 |j,b::k,a,c,d=>by
  simp only[wG] at d;cases a with
  |zero=>grind
  |succ a=>
   obtain⟨l,h,i⟩:=SD (by simpa using d);grind
theorem SE {b:X} {c:bz}:∀{j:X} {a:bm aE},(wG b c j a).length=a.length
 |j,[]=>rfl
 |j,e::d=>by simp[wG,SE]
theorem SJ {d:X} {s:bz}:∀{j:X} {res:bm aE} {cs:eo} {hs:et},cs.length=res.length->hs.length=res.length->∀(a:X) b c e,res[a]?=Y b->cs[a]?=Y c->hs[a]?=Y e->b.1.pure=bq->(sw d s (j+a),(b,c,e))∈lF d s j res cs hs
 |j,[],cs,hs,_,_,a,b,c,e,al,_,_,_=>by grind
 |j,b::f,[],hs,g,_,_,_,_,_,_,_,_,_=>by cases g
 |j,b::f,c::cs,[],_,h,_,_,_,_,_,_,_,_=>by cases h
 |j,b::f,c::cs,e::hs,g,h,a,m,i,k,al,n,o,l=>by
  simp only[lF];cases a with
  |zero=>
   grind
  |succ a=>
   have:=SJ (d:=d) (s:=s) (j:=j+1) (res:=f) (cs:=cs) (hs:=hs) (by grind) (by grind) a m i k (by grind) (by grind) (by grind) l;grind
end
section
variable {E:fM} {C:e7} {st:aR} {A:bT bQ} {Q:aR->Prop}
theorem TZ {i:bm (X×aE)} {j:ak9}:∀{as:bm ak} {bs:bm hP},po i j as bs->∀id∈gA as bs,∃h,aq i id=Y h
 |[],bs,_,id,b=>by cases bs<;>cases b
 |a::as,[],e,id,b=>by cases a<;>exact e.elim
 |a::as,c::bs,e,id,b=>by
  have d:=TZ (as:=as) (bs:=bs) e.2 id;have f:=e.1;cases a with
  |ref k g=>cases g with
   |nil=>
    cases c with
    |m h s=>
     simp only[gA,fF] at b;rcases b with rfl|b
     ·exact⟨_,f.1⟩
     grind
    |o h=>
     simp only[gA,fF] at b;rcases b with rfl|b
     ·exact⟨_,f⟩
     grind
    |_=>exact d b
   |cons=>cases c<;>exact d b
  |view k g p l=>cases g with
   |nil=>
    cases c with
    |w u r q n t=>
     simp only[gA,fF] at b;rcases b with rfl|b
     ·exact⟨_,f.1⟩
     grind
    |_=>exact d b
   |cons=>cases c<;>exact d b
  |_=>cases c<;>exact d b
theorem KC {s:ew} {w:bC} {I:X->Prop} {rt:X->ez} {fp:X->ak9} (e:cP C st s w I rt fp):∀{a:ak9},(∀id∈a,∃b,aq st.h id=Y b)->a.Nodup->((a.map fp).flatten).Nodup
 |[],_,_=>by simp
 |id::a,d,f=>by rw[j4] at f;simp only[gL,mi,iI];obtain⟨b,g⟩:=d id ac;refine⟨(e.tree id b g).2.1,KC e (λq u=>d q (by grind)) f.2,λj m t n c=>?_⟩;subst c;obtain⟨v,k,l⟩:=mj.1 n;obtain⟨i,o,rfl⟩:=eS.1 k;obtain⟨r,p⟩:=d i (by grind);exact e.dis id i b r g p (λc=>f.1 (c▸o)) j m l
def Vh (e:eH->X->Prop) (w:bC) (c:X) (b:bm aE) (f:X->ez) (g:Value):Prop:=
 ∀(d:bm (X×aE)) (rt:X->ez) (fp:X->ak9),(∀a∈jz c (jv b) 0 b,aq d a.1=Y a.2/\rt a.1=f a.1)->cT e w d rt fp (wF c b) g
def cP.glob {E:fM} {C:e7} {st:aR} {f:ew} {w:bC} {I:X->Prop} {rt:X->ez} {fp:X->ak9} (b:cP C st f w I rt fp) (d:∀a,C.I0 a\/C.B a->a<C.w0.heap.size/\¬C.F0 a) (e:lM E C.I0 C.w0):lM E I w:=
 e.mono b.i0 λa c=>b.frame a (d a (.inl c)).1 (d a (.inl c)).2
theorem cP.call {C:e7} {st:aR} {gi:ew} {w:bC} {I:X->Prop} {rt:X->ez} {fp:X->ak9} (G:cP C st gi w I rt fp) {m ce:X} {n:bm ak} {R:ez} (c1:iY (cT (bf I C.B) w st.h rt fp) n R) {l:bm hP} {g:bm aE} (fl:sN E ce l g) (T:po st.h (gA n l) n l) (a0:n6 m st n l g=bp) (f8:∀F:et,(∀e∈F.flatten,∃id c,aq st.h id=Y c/\e∈fp id)->ML w R F (p6 0 l)) (em:lM E I w):Calls E.P ce R.toArray w (λM w'=>∃I' H O cC,M=.returned (q9 cC)/\n0 C st w w' I I' rt fp (gA n l) (yt (m7 n l)) (kw n l++jz m (jv g) 0 g) H O/\Vh (bf I' C.B) w' m g H (q9 cC)):=by
 simp only[n6,cF,g7] at a0;obtain⟨⟨c2,dg⟩,ix⟩:=a0;have c2:=j0.ok c2;have dg:=j0.ok dg
 let u:=gA n l
 let B':X->Prop:=λe=>C.B e\/∃id c,aq st.h id=Y c/\eY id u=bq/\e∈fp id
 have ek:∀e,C.B e->B' e:=λe k=>.inl k;have el:∀id c,aq st.h id=Y c->eY id u=bq->∀e∈fp id,B' e:=λid c x o e k=>.inr ⟨id,c,x,o,k⟩;obtain⟨F,fs,ic⟩:=Nj G (B':=B') (S:=u) ek el (args:=l) c1 T;have i1:∀id∈u,∃c,aq st.h id=Y c:=λid v=>TZ T id v;have U:∀e∈F.flatten,∃id∈u,∃c,aq st.h id=Y c/\e∈fp id:=(by grind);have ft:F.flatten.Nodup:=(by grind [KC]);have fn:=fl w I B' R F (λe k=>by
  rcases k with k|k|⟨id,c,x,_,k⟩
  ·exact G.ib e (.inl k)
  ·exact G.ib e (.inr k)
  ·exact((G.tree id c x).2.2 e k).2.2.1) fs ft (λe k=>by
  obtain⟨id,v,c,x,ap⟩:=U e k;obtain⟨ax,d4,bs,d5⟩:=(G.tree id c x).2.2 e ap;refine⟨ax,?_,bs⟩;rintro(z|⟨d2,ad,f9,o,ex⟩)
  ·grind
  ·have f5:id≠d2:=λM=>(by grind [ht]);exact G.dis id d2 c ad x f9 f5 e ap ex) (f8 F λe k=>by
  grind) em
 refine fn.mono ?_;rintro M w' ⟨I',D,A,cC,rfl,p⟩;obtain⟨J,a3,a4,i3,d0⟩:=SG p.res;have fz:=(HR p.args).2;have cv:po st.h u n l:=T
 let q:bm (X×CF):=hk rt n l D++lF m (jv g) 0 g J A
 have hr:q.map (λb=>(b.1,b.2.1))=kw n l++jz m (jv g) 0 g:=(by grind [R1,Gz]);have cs:(q.map (·.1)).Nodup:=(by grind);have ii:((hk rt n l D).map (λb=>b.2.2.2)).flatten=D.flatten:=R0 cv p.args;have io:((lF m (jv g) 0 g J A).map (λb=>b.2.2.2)).flatten.Sublist A.flatten:=SH;have co:((q.map λb=>b.2.2.2).flatten).Sublist (D.flatten++A.flatten):=(by grind);obtain⟨hs,gt⟩:=aaO (p.nd.sublist co);have f6:∀b∈hk rt n l D,aW (bf I' C.B) w' b.2.1.1 b.2.2.1 b.2.1.2 b.2.2.2/\b.2.2.1=rt b.1/\b.1∈u/\∃c,aq st.h b.1=Y c/\b.2.1.1=c.1:=(by exact R2 G (S:=u) (args:=l) (gs:=D) c1 T p.args);have eq:∀b∈q,aW (bf I' C.B) w' b.2.1.1 b.2.2.1 b.2.1.2 b.2.2.2/\(b.1∈u\/aq st.h b.1=bo):=by
  intro b y;rcases g0.1 y with y|y
  ·grind
  obtain⟨f,al,N,am⟩:=SI a3 a4 b y;have f2:f<cC.length:=(by grind);obtain⟨_,Q⟩:=d0 f _ _ _ cC[f] al N am ac;refine⟨Q.mono (λbl e o=>⟨?_,cp _ _⟩) (λe _=>cp _ _),.inr ?_⟩
  ·cases bl
   ·exact o
   exact o.elim .inl (λz=>z.elim)
  have o:(b.1,b.2.1)∈jz m (jv g) 0 g:=(by grind [Gz]);grind [Option.isNone_iff_eq_none]
 have en:∀b∈q,∀e∈b.2.2.2,e∈D.flatten++A.flatten:=λb y e k=>co.subset (mj.2 ⟨_,eS.2 ⟨b,y,bn⟩,k⟩);have dl:∀f,aq (kw n l++jz m (jv g) 0 g) f=(aq q f).map (·.1):=λf=>by grind [Qn]
 let H:X->ez:=λf=>match aq q f with|some b=>b.2.1|none=>[]
 let O:X->ak9:=λf=>match aq q f with|some b=>b.2.2|none=>[]
 have gc:n0 C st w w' I I' rt fp u (yt (m7 n l)) (kw n l++jz m (jv g) 0 g) H O:=
  ⟨p.size,p.os,p.tape,p.output,λe k hv=>p.heap e k (λfr=>by obtain⟨id,v,c,x,ap⟩:=U e fr;grind),p.evo,p.i,(λe k=>by
    rcases p.i2 e k with z|⟨K,L|L⟩
    ·grind
    ·omega
    exact .inr ⟨K,.inr (U e L)⟩),
   (λid c v=>by
    rw[dl] at v;cases an:aq q id with
    |none=>grind
    |some b=>
     rw[an] at v;obtain rfl:b.1=c:=gC v;have o:=Bp an;obtain⟨K,L⟩:=eq _ o;refine⟨L,by grind,by grind,λe k=>?_⟩;simp only[O,an] at k;obtain⟨ax,d4,bs,d5⟩:=p.Nz e (en _ o e k);exact⟨ax,bs,d5.imp (λz=>z) (U e)⟩),
   (λV d6 c kg f0 f1 is e k=>by
    rw[dl] at f0 f1;cases hc:aq q V with
    |none=>grind
    |some i8=>
     cases hi:aq q d6 with
     |none=>grind
     |some jp=>
      grind),
   (λd7 av c x=>by
    obtain⟨id,v,rfl⟩:=eS.1 av;obtain⟨b,y,M,_⟩:=PZ (rt:=rt) cv fz id v;subst M;have o:b∈q:=lT _ y;have i0:=FL cs o;obtain⟨_,L,_,ad,ci,d9⟩:=f6 b y;rw[x] at ci;obtain rfl:=gC ci;exact⟨b.2.1,by grind,d9,by grind,⟨c.1,by cases c.1<;>rfl⟩,λb _ _ _ a0=>by grind [FE]⟩),
   (λd7 av c x b _ _ _ _ _ hw=>by
    obtain⟨id,v,rfl⟩:=eS.1 av;grind [vH])⟩
 refine⟨I',H,O,cC,bn,gc,λK ge d8 fT=>?_⟩;have d3:∀(f:X) (c:aE) (r:Value),g[f]?=Y c->cC[f]?=Y r->cT (bf I' C.B) w' K ge d8 (bif c.1.pure then .val c.1 c.2 else .ref (sw m (jv g) (0+f)) []) r:=by
  intro f c r al N;have f2:f<g.length:=(h0.1 al).1;obtain⟨am,Q⟩:=d0 f c J[f] A[f] r al ac ac N;subst am;cases ds:c.1.pure with
  |true=>
   simp only[bF];have:=Q.pure ds;rw[this] at Q;refine .val (Q.mono (λbl e o=>⟨?_,cp _ _⟩) ac);cases bl
   ·exact o
   exact o.elim .inl (λz=>z.elim)
  |false=>
   simp only[bP];have f3:=SJ (d:=m) (s:=jv g) (j:=0) a3 a4 f c J[f] A[f] al ac ac ds;have o:(sw m (jv g) (0+f),(c,J[f],A[f]))∈q:=ln _ f3;have f4:(sw m (jv g) (0+f),c)∈jz m (jv g) 0 g:=(by rw[<-Gz (d:=m) (s:=jv g) (j:=0) a3 a4];grind);obtain⟨ax,d4⟩:=fT _ f4;refine .ref (t:=c) (loc:=bo) ax ?_;have go:H (sw m (jv g) (0+f))=J[f]:=(by simp only[H,FL cs o]);grind [amR]
 cases d1:g with
 |nil=>
  have:cC=[]:=rC (by grind);subst this;exact .fu (vs:=#[]) rfl (λV a r z=>by grind)
 |cons c bx=>
  cases bx with
  |nil=>
   obtain⟨r,rfl⟩:∃r,cC=[r]:=qr.1 (by grind);have:=d3 0 c r (by grind) rfl;rw[d1] at this;exact this
  |cons gf bx=>
   have f7:q9 cC=.tuple cC.toArray:=by
    have:cC.length=(c::gf::bx).length:=by grind
    match cC,this with
    |v1::fb::kd,_=>rfl
   rw[f7];refine .fu (by grind [SE]) (λV gl r K L=>?_);obtain⟨ad,al,N⟩:=SD K;have:=d3 V ad r (by grind) (by grind);rw[d1] at this;rw[N];exact this
theorem SK {a:X} {d:bz} {c:bm aE} {e:bm (X×aE)} (f:((e++jz a d 0 c).map (·.1)).Nodup):∀b∈jz a d 0 c,aq (e++jz a d 0 c) b.1=Y b.2:=
 λb g=>FL f (ln _ g)
theorem e8.call {Q:aR->Prop} {j d:X} {l:bQ} {f:bL} {c:bm ak} {b s:bT _} (K:l.op=.call {callee:=.value f,args:=b,argTypes:=s}) (S:aX st.g f=.di d c) (G:l.dst=Y j) (H:C.ok j) (an:∀(r:ew) (w:bC),(callFunc d r).run E.P w=.ok (.enter d r) w) {i:bm hP} {n:bm aE} (D:sN E d i n) (N:p6 0 i=bo) (x:∀m,C.I0 m\/C.B m->m<C.w0.heap.size/\¬C.F0 m) (y:lM E C.I0 C.w0) (z:po st.h (gA (b.toList.map (aX st.g)++c) i) (b.toList.map (aX st.g)++c) i) (p:n6 j st (b.toList.map (aX st.g)++c) i n=bp) (u:Q (Ww j st (b.toList.map (aX st.g)++c) i n)):e8 E C l st Q:=by
 rintro a w ⟨I,rt,fp,k⟩ next T J
 obtain⟨e,R,v⟩:∃e:ew,a.eval f=.func (.func d) #[] e/\iY (cT (bf I C.B) w st.h rt fp) c e.toList:=by
  have o:=k.aX f;rw[S] at o;generalize bl:a.eval f=ce at o;cases o with|di a0 ap=>
  grind [zS]
 have A:iY (cT (bf I C.B) w st.h rt fp) (b.toList.map (aX st.g)++c) (b.toList.map a.eval++e.toList):=HP (HQ (λf=>k.aX f) _) v;have F:=k.call A D z p (λ_ _=>by rw[N];trivial) (k.glob x y);generalize am:b.toList.map (aX st.g)++c=U at*;have M:(bM a.eval l).run E.P w=.ok (.enter d (b.toList.map a.eval++e.toList).toArray) w:=(by have al:b.map a.eval=(b.toList.map a.eval).toArray:=(by grind);have t:(b.toList.map a.eval++e.toList).toArray=(b.toList.map a.eval).toArray++e:=ac;rw[t];simp only[bM,K,alW,al,bW,R,Deferred.ofValue,ct,b1,invoke,Array.empty_append,Array.append_empty];grind);unfold alk;rw[M];show Calls E.P d _ w _;refine F.mono ?_;rintro V w' ⟨I',bx,ad,cC,rfl,O,L⟩;show next (a.put l.dst (q9 cC)) w'
 rw[G];have q:=p;simp only[n6,cF] at q;have a3:=j0.ok q.1.2;refine J _ _ _ u bn ⟨I',_,_,(k.eG O).put H (av:=wF j n) (L _ _ _ (λbs a4=>?_))⟩;grind [k4,SK,fv]
end
end
end Go.jN
end
