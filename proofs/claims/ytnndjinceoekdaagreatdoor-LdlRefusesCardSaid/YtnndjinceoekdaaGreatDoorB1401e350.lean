/-
  Parts of the proof: Pm104, Pm105, Pm106, Pm96, Pm107, Pm45, Pm46, Pm47, Pm48, Pm49, Pm108, Pm117, Pm118, Pm119, Pm120, Pm121, Pm122, Pm123, Pm124, Pm125, Pm126, Pm133, Pm109, Pm110, Pm134, Pm135, Pm136, Pm137: the framework (Fw), pure forms (Dn), plain laws (Pl, Th), calls of functions (Ok).
-/
import Derived.KernelRfl
import Derived.Test.YtnndjinceoekdaaGreatDoorB73169931

set_option linter.all false
set_option maxHeartbeats 1000000
open _root_ renaming Nat->X,Bool->bD,List->bp,Option->bA,Int->Z,rfl->bq,if_pos->b9,Unit->bw,congrArg->b4,if_neg->ck,cond_true->bI,cond_false->bR,decide_eq_true_eq->alD,not_not_intro->cw,decide_eq_decide->cy
open Option renaming some->Y,bind_some->bM,none->bv,bind->bE,map_some->amP
open Bool renaming false->br,true->bt
open Decidable renaming decide->bz,not_not->aoS
open Go.l0.aN renaming cX->cb
open Go.l0.ah renaming bs->bC,aJ->bF,ai->bu,steps->bP,loop->als,eq_iff->bQ
open Go.l0.aZ renaming gR->amT,run->alf,av->anu
open List renaming length_set->anf,range->bK,length->cE,take_length->cm,getElem_mem->b1,range_succ->alu,append_assoc->alG,getElem?_eq_getElem->bV,length_singleton->amx,length_append->alr,length_take->alj,take_add_one->ct,flatMap_nil->aqy,filter_map->apc,filter->am6,mem_iff_getElem->amc,length_range->amf,sum_cons->aqz,foldl_cons->ans,sum_append->aqA,replicate->bJ,getD_eq_getElem?_getD->aqB,length_filter_le->alB,length_map->b6,filter_eq_nil_iff->an8,range'->alb,range'_concat->aof,mem_singleton->ak9,not_mem_nil->anr,nodup_range->aog,mem_append_left->aoG,flatMap->aoe,getElem_idxOf->aoh,getElem_map->an5,map_append->amQ,map_cons->aoj,nil_append->aoY
open Go.l0.iW renaming of->amU
open Nat renaming lt_succ_self->alS,le_refl->cc,le_trans->cu,beq->bL,add_assoc->aoc,lt_or_ge->cq,add_sub_cancel->aoX,zero_mul->am8,one_mul->anq,div_add_mod'->aph,div_lt_of_lt_mul->aok,pos_of_ne_zero->api,mod_lt->amm
open Go.l0.bf renaming add->ant,zero->apg,kh->ali,mul->aoi,rng->amh
open Option.some renaming inj->al6
open Go.IntKind renaming u64->bG
open Int renaming toNat_natCast->alO,add_zero->ana,mul_eq_zero->anb,one_mul->ane,natAbs_of_nonneg->aqC,mul_zero->anc,mul_nonneg->am9,le_of_lt->aln
open List.Pairwise renaming imp->aqS,nil->amZ
open Rat renaming intCast_add->aqD,mul_assoc->aqE
noncomputable section
namespace Go.l0
variable{a b:X}{c f:X->X->bD}{d r s:ak7}{e:bp aN}{g:X->X->ak1}{h:akW}{i:bp (bA (bp (Z×cP)×X))}{j:Z}{k:Type}{l:X->X}{m:X->X->Rat}{n:bp eE}{o:X->eE}{p:c3}{q:ak1}
section
theorem Oz {a b:Z}:vz ([aw (a6 a),aw (a6 j),aw (a6 b)],())=Y (aw (jT [a,j,b]),()):=by unfold vz;dsimp only;refine aj (y:=aw (a6 a)) rfl (aj (y:=aw (a6 b)) rfl (aj (oW (fF _) (fF _)) (aj (y:=aw (a6 j)) rfl (aj (y:=aw (a6 j)) rfl (aj (oW (fF _) (fF _)) (aj (Fp (kl _ _) (kl _ _)) ?_))))));rfl
section
variable {R:ak6} {full:X} {lf lf':ak5} {E:X->X->fV} {x:aZ} {c:X}
theorem Qx (a:jc R full lf E x c) {lf':ak5} {k p q:X} (b:k<R.length) (f:p<R.length) (g:q<R.length) (ay:lf.getD k br=bt) (h:lf.getD p br=bt) (i:lf.getD q br=bt) {d e:ak1} (j:cN d) (l:cN e):AJ ((k:Z),(p:Z),(q:Z),aw d,aw e,Y (Y (cO R full lf' (eQ R.length E))),())=Y (aw (cQ (cM (x.s (R.getD k 0) (R.getD p 0)) d) (dd (cM (x.s (R.getD k 0) (R.getD q 0)) e))),()):=by obtain⟨u,m,w⟩:=a.r.ent k p b f ay h;obtain⟨v,n,z⟩:=a.r.ent k q b g ay i;have o:=a.r.okd _ (a.r.mem b ay) _ (a.r.mem f h);have t:=a.r.okd _ (a.r.mem b ay) _ (a.r.mem g i);unfold AJ;dsimp only;refine aj (y:=Y (cO R full lf' (eQ R.length E))) rfl (aj (y:=cO R full lf' (eQ R.length E)) rfl (aj (y:=u) (by rw[fq];exact m) (aj (y:=aw _) (by grind [fq]) (aj (oW o j) ?_))));refine aj (y:=Y (cO R full lf' (eQ R.length E))) rfl (aj (y:=cO R full lf' (eQ R.length E)) rfl (aj (y:=v) (by rw[fq];exact n) (aj (y:=aw _) (by grind [fq]) (aj (oW t l) (aj (Fp (kl _ _) (kl _ _)) rfl)))))
theorem Xo (A:jc R full lf E x c) (gf:c+4<1048576) {p:X} (mz:p<full) (a0:lf.getD p br=bt) (ne:a<full) (a3:lf.getD a br=bt) (nd:p≠a) (d4:lf'.length=lf.length) (d3:∀g,g<R.length->lf'.getD g br=(lf.getD g br&&bz (g∉[p,a]))) (d1:x.fin (R.getD p 0)) (gl:x.fin (R.getD a 0)):ah (AI (cO R full lf' (eQ R.length E),(p:Z),(a:Z),x.gW [R.getD p 0,R.getD a 0],())) λJ=>
  ((x.de [R.getD p 0,R.getD a 0]).fin/\∃E',J=(cO R full lf' (eQ R.length E'),(x.de [R.getD p 0,R.getD a 0]).cX.map il,0,())/\jc R full lf' E' (x.elim [R.getD p 0,R.getD a 0]) (c+4))\/(¬(x.de [R.getD p 0,R.getD a 0]).fin/\J.2.2.1=233/\J.2.1=[]):=by
 have mo:=A.r.fl;have V:=A.r.sm;have bl:p<R.length:=aa;have bx:a<R.length:=aa;have hw:lf'.length=R.length:=d4.trans A.r.ll;have B:∀g∈e4 lf' R.length,g<R.length/\lf.getD g br=bt:=λg n=>(by obtain⟨f8,f9⟩:=yL.1 n;grind);have U:(e4 lf' R.length).length<=1000:=dk (Km _ _) aa;have id:=Qb lf' R.length;have ib:=λ(g:X) (n:g∈e4 lf' R.length) (L K:ak1) (Q:cN L) (S:cN K)=>Qx A (lf':=lf') (k:=g) (p:=p) (q:=a) (B g n).1 bl bx (B g n).2 a0 a3 Q S;have ic:=λ(g:X) (n:g∈e4 lf' R.length) (L K:ak1) (Q:cN L) (S:cN K)=>Qx A (lf':=lf') (k:=g) (p:=a) (q:=p) (B g n).1 bx bl (B g n).2 a3 a0 Q S;have ge:=A.r.mem bl a0;have ds:=A.r.mem bx a3;generalize lk:R.getD p 0=j at*;generalize lo:R.getD a 0=i at*;have a4:[p,a].map (λg=>R.getD g 0)=[j,i]:=ae;have f7:cH (x.bn j j)≠2047:=d1 j ge;have dg:cH (x.bn i j)≠2047:=d1 i ds;have f2:cH (x.bn i i)≠2047:=gl i ds;have d7:(e4 lf' R.length).map (λg=>R.getD g 0)=x.rows.filter λb=>bz (b∉[j,i]):=by
  have:=A.r.rest (lf':=lf') (p:=[p,a]) (λg n=>by
   grind) d3 (bg _)
  rw[<-A.r.rows,a4] at this;grind [F7]
 generalize ap:(λb=>gN (cQ (cM (x.s b j) (a6 (x.bn i i))) (dd (cM (x.s b i) (a6 (x.bn i j))))) (jT (x.gW [j,i])) 0)=o;generalize av:(λb=>gN (cQ (cM (x.s b i) (a6 (x.bn j j))) (dd (cM (x.s b j) (a6 (x.bn i j))))) (jT (x.gW [j,i])) 0)=t;have d6:(x.de [j,i]).l=[o,t]:=(by rw[<-ap,<-av];rfl);have hv:x.lc [j,i]=[o,t]:=d6;have ii:(x.de [j,i]).rows=(e4 lf' R.length).map (λg=>R.getD g 0):=d7.symm;have lt:(x.de [j,i]).cX=[((e4 lf' R.length).map (λg=>R.getD g 0),o),((e4 lf' R.length).map (λg=>R.getD g 0),t)]:=(by grind [cb]);have hc:(x.de [j,i]).fin↔(∀g∈e4 lf' R.length,cH (o (R.getD g 0))≠2047)/\∀g∈e4 lf' R.length,cH (t (R.getD g 0))≠2047:=by
  unfold aN.fin;rw[d6,ii];constructor
  ·exactλd2=>⟨λg n=>d2 o ac _ (e1.2 ⟨g,n,bq⟩),λg n=>d2 t ac _ (e1.2 ⟨g,n,bq⟩)⟩
  rintro⟨f8,f9⟩ H N b C;obtain⟨g,n,rfl⟩:=e1.1 C;rcases gn.1 N with rfl|N
  ·grind
  grind
 have d0:cN (jT (x.gW [j,i])):=k7 _ _;have gi:x.gW [j,i]=[x.bn j j,x.bn i j,x.bn i i]:=rfl;unfold AI;dsimp only;refine bC (SF hw V) ?_;dsimp only;refine bC (y:=x.bn j j) rfl (bC (qT (x.lR _ _)) (bC (y:=x.bn i j) rfl (bC (qT (x.lR _ _)) (bC (y:=x.bn i i) rfl (bC (qT (x.lR _ _)) ?_)))));dsimp only;refine bC Oz ?_;dsimp only;rw[aer,<-gi];refine bF (GN (v:=λg=>cQ (cM (x.s (R.getD g 0) j) (a6 (x.bn i i))) (dd (cM (x.s (R.getD g 0) i) (a6 (x.bn i j))))) V d0 (λg n=>⟨(B g n).1,k7 _ _,?_⟩) U) ?_
 ·unfold Eb;dsimp only;refine aj (y:=(Y (Y (cO R full lf' (eQ R.length E))),())) rfl (aj (y:=(p:Z)) rfl (aj (y:=(a:Z)) rfl (aj (y:=[aw (a6 (x.bn j j)),aw (a6 (x.bn i j)),aw (a6 (x.bn i i))]) rfl (aj (y:=aw (a6 (x.bn i i))) rfl (aj (y:=[aw (a6 (x.bn j j)),aw (a6 (x.bn i j)),aw (a6 (x.bn i i))]) rfl (aj (y:=aw (a6 (x.bn i j))) rfl ?_))))));exact aj (ib g n _ _ (fF _) (fF _)) rfl
 rintro J (⟨l2,rfl⟩|⟨⟨g,n,go⟩,P⟩)
 rotate_left
 ·obtain⟨H,f0,f1,_⟩:=J;dsimp only at P;subst P;dsimp only;rw[aS af];grind [bu]
 dsimp only;rw[aP af,aes];refine bF (GN (v:=λg=>cQ (cM (x.s (R.getD g 0) i) (a6 (x.bn j j))) (dd (cM (x.s (R.getD g 0) j) (a6 (x.bn i j))))) V d0 (λg n=>⟨(B g n).1,k7 _ _,?_⟩) U) ?_
 ·unfold Ec;dsimp only;refine aj (y:=(Y (Y (cO R full lf' (eQ R.length E))),())) rfl (aj (y:=(a:Z)) rfl (aj (y:=(p:Z)) rfl (aj (y:=[aw (a6 (x.bn j j)),aw (a6 (x.bn i j)),aw (a6 (x.bn i i))]) rfl (aj (y:=aw (a6 (x.bn j j))) rfl (aj (y:=[aw (a6 (x.bn j j)),aw (a6 (x.bn i j)),aw (a6 (x.bn i i))]) rfl (aj (y:=aw (a6 (x.bn i j))) rfl ?_))))));exact aj (ic g n _ _ (fF _) (fF _)) rfl
 rintro J (⟨mc,rfl⟩|⟨⟨g,n,go⟩,P⟩)
 rotate_left
 ·obtain⟨H,f0,f1,_⟩:=J;dsimp only at P;subst P;dsimp only;rw[aS af];grind [bu]
 dsimp only;rw[aP af];have f3:(λg=>gN (cQ (cM (x.s (R.getD g 0) j) (a6 (x.bn i i))) (dd (cM (x.s (R.getD g 0) i) (a6 (x.bn i j))))) (jT (x.gW [j,i])) 0)=λg=>o (R.getD g 0):=(by rw[<-ap]);have f5:(λg=>gN (cQ (cM (x.s (R.getD g 0) i) (a6 (x.bn j j))) (dd (cM (x.s (R.getD g 0) j) (a6 (x.bn i j))))) (jT (x.gW [j,i])) 0)=λg=>t (R.getD g 0):=(by rw[<-av]);have f4:(λg=>aw (a6 (gN (cQ (cM (x.s (R.getD g 0) j) (a6 (x.bn i i))) (dd (cM (x.s (R.getD g 0) i) (a6 (x.bn i j))))) (jT (x.gW [j,i])) 0)))=λg=>aw (a6 (o (R.getD g 0))):=(by rw[<-ap]);have f6:(λg=>aw (a6 (gN (cQ (cM (x.s (R.getD g 0) i) (a6 (x.bn j j))) (dd (cM (x.s (R.getD g 0) j) (a6 (x.bn i j))))) (jT (x.gW [j,i])) 0)))=λg=>aw (a6 (t (R.getD g 0))):=(by rw[<-av]);have gs:∀g∈e4 lf' R.length,cH (o (R.getD g 0))≠2047:=λg n=>ae;have gt:∀g∈e4 lf' R.length,cH (t (R.getD g 0))≠2047:=λg n=>ae;rw[f3,f5,f4,f6];generalize mp:e4 lf' R.length=m at*;have am:=λ(E:X->X->fV) (an:X->X->ak1) (L K:X->ak1) (gc:∀b∈m,∀h∈m,E b h=aw (an b h)) (io:∀b∈m,∀h∈m,cN (an b h)) (Q:∀b,cN (L b)) (S:∀b,cN (K b))=>
  TI (R:=R) (full:=full) (lf:=lf') (E:=E) (l:=m) (s:=an) (u:=L) (v:=K) V (λg n=>(B g n).1) id U gc io (λb _=>Q b) (λb _=>S b)
 have ci:∀{E:X->X->fV} {s':X->X->ak1},∀b∈m,∀h∈m,(if b∈m/\h∈m then aw (s' b h) else E b h)=aw (s' b h):=λb C h F=>aB ⟨C,F⟩;generalize ce:(λb h=>x.s (R.getD b 0) (R.getD h 0))=z;generalize d8:(λg=>cM (a6 (o (R.getD g 0))) (a6 (x.bn j j)))=w;generalize d9:(λg=>cM (a6 (o (R.getD g 0))) (a6 (x.bn i j)))=D;generalize ek:(λg=>cM (a6 (t (R.getD g 0))) (a6 (x.bn i j)))=G;generalize el:(λg=>cM (a6 (t (R.getD g 0))) (a6 (x.bn i i)))=T;generalize em:(λg=>a6 (o (R.getD g 0)))=v1;generalize eq:(λg=>a6 (t (R.getD g 0)))=fL;have ft:∀b,cN (v1 b):=λb=>(by grind [fF]);have fz:∀b,cN (fL b):=λb=>(by grind [fF]);have ix:∀b,cN (w b):=λb=>(by grind [kl]);have i0:∀b,cN (D b):=λb=>(by grind [kl]);have i2:∀b,cN (G b):=λb=>(by grind [kl]);have i3:∀b,cN (T b):=λb=>(by grind [kl]);have lb:m.map (λg=>aw (a6 (o (R.getD g 0))))=m.map λg=>aw (v1 g):=(by rw[<-em]);have le:m.map (λg=>aw (a6 (t (R.getD g 0))))=m.map λg=>aw (fL g):=(by rw[<-eq]);have ad:=λ(fT:X->Z) (c2:Z)=>Tm (l:=m) (f:=fT) (d:=a6 c2) (fF c2) U;have i8:=am E z w v1 (λb C h F=>by rw[<-ce];exact A.e (B b C).1 (B h F).1 (B b C).2 (B h F).2) (λb C h F=>by rw[<-ce];exact A.r.okd _ (A.r.mem (B b C).1 (B b C).2) _ (A.r.mem (B h F).1 (B h F).2)) ix ft;have jp:=am _ (λb h=>cQ (z b h) (dd (cM (w b) (v1 h)))) D fL (ci (E:=E) (s':=λb h=>cQ (z b h) (dd (cM (w b) (v1 h))))) (λb _ h _=>k7 _ _) i0 fz;have kd:=am _ (λb h=>cQ (cQ (z b h) (dd (cM (w b) (v1 h)))) (dd (cM (D b) (fL h)))) G v1 (ci (E:=λb h=>if b∈m/\h∈m then aw (cQ (z b h) (dd (cM (w b) (v1 h)))) else E b h) (s':=λb h=>cQ (cQ (z b h) (dd (cM (w b) (v1 h)))) (dd (cM (D b) (fL h))))) (λb _ h _=>k7 _ _) i2 ft;have kg:=am _ (λb h=>cQ (cQ (cQ (z b h) (dd (cM (w b) (v1 h)))) (dd (cM (D b) (fL h)))) (dd (cM (G b) (v1 h)))) T fL (ci (E:=λb h=>if b∈m/\h∈m then aw (cQ (cQ (z b h) (dd (cM (w b) (v1 h)))) (dd (cM (D b) (fL h)))) else if b∈m/\h∈m then aw (cQ (z b h) (dd (cM (w b) (v1 h)))) else E b h) (s':=λb h=>cQ (cQ (cQ (z b h) (dd (cM (w b) (v1 h)))) (dd (cM (D b) (fL h)))) (dd (cM (G b) (v1 h))))) (λb _ h _=>k7 _ _) i3 fz;have co:=ad (λg=>o (R.getD g 0)) (x.bn j j);have cs:=ad (λg=>o (R.getD g 0)) (x.bn i j);have cv:=ad (λg=>t (R.getD g 0)) (x.bn i j);have c1:=ad (λg=>t (R.getD g 0)) (x.bn i i);rw[show m.map (λg=>aw (cM (a6 (o (R.getD g 0))) (a6 (x.bn j j))))=m.map λg=>aw (w g) by rw[<-d8]] at co;rw[show m.map (λg=>aw (cM (a6 (o (R.getD g 0))) (a6 (x.bn i j))))=m.map λg=>aw (D g) by rw[<-d9]] at cs;rw[show m.map (λg=>aw (cM (a6 (t (R.getD g 0))) (a6 (x.bn i j))))=m.map λg=>aw (G g) by rw[<-ek]] at cv;rw[show m.map (λg=>aw (cM (a6 (t (R.getD g 0))) (a6 (x.bn i i))))=m.map λg=>aw (T g) by rw[<-el]] at c1;rw[lb] at co cs|-;rw[le] at cv c1|-;refine bC (y:=aw (a6 (x.bn j j))) rfl (bC co (bC i8 ?_));refine bC (y:=aw (a6 (x.bn i j))) rfl (bC cs (bC jp ?_));refine bC (y:=aw (a6 (x.bn i j))) rfl (bC cv (bC kd ?_));refine bC (y:=aw (a6 (x.bn i i))) rfl (bC c1 (bC kg ?_));refine bu.2 (.inl ⟨hc.2 ⟨gs,gt⟩,(λb h=>if b∈m/\h∈m then aw (cQ (cQ (cQ (cQ (z b h) (dd (cM (w b) (v1 h)))) (dd (cM (D b) (fL h)))) (dd (cM (G b) (v1 h)))) (dd (cM (T b) (fL h)))) else(λb h=>if b∈m/\h∈m then aw (cQ (cQ (cQ (z b h) (dd (cM (w b) (v1 h)))) (dd (cM (D b) (fL h)))) (dd (cM (G b) (v1 h)))) else(λb h=>if b∈m/\h∈m then aw (cQ (cQ (z b h) (dd (cM (w b) (v1 h)))) (dd (cM (D b) (fL h)))) else if b∈m/\h∈m then aw (cQ (z b h) (dd (cM (w b) (v1 h)))) else E b h) b h) b h),?_,?_⟩)
 ·grind [Oh]
 have hi:∀b O,n4 (x.gW [j,i]) (x.lc [j,i]) b O=cQ (cQ (cQ (iA (o b) (x.bn j j) (o O)) (iA (o b) (x.bn i j) (t O))) (iA (t b) (x.bn i j) (o O))) (iA (t b) (x.bn i i) (t O)):=λb O=>(by rw[hv];rfl);have dl:∀M:X,M=65536->∀b∈x.rows.filter (λb=>bz (b∉[j,i])),∀h∈x.rows.filter (λb=>bz (b∉[j,i])),
  cQ (cQ (cQ (cQ (x.s b h) (dd (iA (o b) (x.bn j j) (o h)))) (dd (iA (o b) (x.bn i j) (t h)))) (dd (iA (t b) (x.bn i j) (o h)))) (dd (iA (t b) (x.bn i i) (t h)))=(x.elim [j,i]).s b h/\bf M 3222 3072 (c+4) ((x.elim [j,i]).s b h):=by
  intro M I b C h F;have d5:∀H,H∈x.rows.filter (λb=>bz (b∉[j,i]))->H∈x.rows/\cH (o H)≠2047/\cH (t H)≠2047:=λH N=>(by refine⟨(h4.1 N).1,?_⟩;rw[<-d7] at N;obtain⟨g,n,rfl⟩:=e1.1 N;grind);obtain⟨i1,fn,fp⟩:=d5 b C;obtain⟨is,fr,fs⟩:=d5 h F;have:=bf.agh I (A.ex M I b i1 h is) (bf.iA I fn f7 fr) (bf.iA I fn dg fs) (bf.iA I fp dg fr) (bf.iA I fp f2 fs) gf;rw[<-hi] at this;exact this
 have mt:=A.next (lf':=lf') (p:=[p,a]) (λg n=>by
  rcases gn.1 n with rfl|n
  ·grind
  grind) ae d4 d3 (E':=λb h=>if b∈m/\h∈m then aw (cQ (cQ (cQ (cQ (z b h) (dd (cM (w b) (v1 h)))) (dd (cM (D b) (fL h)))) (dd (cM (G b) (v1 h)))) (dd (cM (T b) (fL h)))) else(λb h=>if b∈m/\h∈m then aw (cQ (cQ (cQ (z b h) (dd (cM (w b) (v1 h)))) (dd (cM (D b) (fL h)))) (dd (cM (G b) (v1 h)))) else(λb h=>if b∈m/\h∈m then aw (cQ (cQ (z b h) (dd (cM (w b) (v1 h)))) (dd (cM (D b) (fL h)))) else if b∈m/\h∈m then aw (cQ (z b h) (dd (cM (w b) (v1 h)))) else E b h) b h) b h) (c':=c+4) (λb h C F nn no=>by
   have hr:b∈m:=(by grind [yL]);have hs:h∈m:=(by grind [yL]);rw[a4];dsimp only;rw[b9 ⟨hr,hs⟩,<-(dl 65536 bq (R.getD b 0) ae (R.getD h 0) ae).1,<-ce,<-d8,<-d9,<-ek,<-el,<-em,<-eq];rfl) (by
   rw[a4];intro M I b C h F;exact(dl M I b C h F).2)
 grind
end
end
section
theorem N4 {x:aZ}:∀{d b:ak6},x.gR d=Y b->∀c∈b,x.fin c
 |[],b,a,c,f=>by grind [amT]
 |q::d,b,a,c,f=>by
  rw[amT] at a;split at a
  ·cases a
  rename_i e;have e:=Classical.not_not.1 e;split at a
  ·grind
  split at a
  ·grind
  rename_i h g;split at a
  ·exact N4 a c f
  grind
abbrev xp:=bA (Z×((bp aM×bw)×(bp (bA (bp (Z×cP)×X))×bw)))
abbrev HL:=xp×(aM×(aM×(aM×(bp eO×eG))))
def l8 (b:xp) (a:bp aN) (del:X):HL:=(b,(be (a.flatMap aN.aQ),(a.map (λc=>(c.aQ.length:Z)),(a.flatMap aN.d,((a.flatMap cb).map il,((del:Z),()))))))
def HK (a:bp aN):Prop:=(a.flatMap aN.aQ).length<=1000/\a.length<=1000/\(a.flatMap aN.d).length<=10000/\(a.flatMap cb).length<=10000
def iS (lf:ak5) (c:ak6):ak5:=c.foldl (λb a=>b.set a br) lf
theorem aaL (lf:ak5) (b:ak6) (a:X):iS lf (b++[a])=(iS lf b).set a br:=by grind [iS]
theorem KS (a:ak6):∀lf:ak5,(iS lf a).length=lf.length:=by
 induction a with
 |nil=>intro lf;rfl
 |cons c a b=>
  grind [anf,iS,lf]
theorem aaK (b:ak6):∀(lf:ak5) {a:X},a<lf.length->(iS lf b).getD a br=(lf.getD a br&&bz (a∉b)):=by
 induction b with
 |nil=>grind [iS,lf]
 |cons c b e=>
  intro lf a d;show(iS (lf.set c br) b).getD a br=_;grind
section
variable {R:ak6} {full:X} {lf:ak5} {E:X->X->fV} {x:aZ} {c:X}
def mD (x:aZ) (a:ak6) (c:X):ak7:=(bK c).flatMap λb=>(bK (b+1)).map λd=>x.bn (a.getD b 0) (a.getD d 0)
def jc.value (d:jc R full lf E x c) (e:a<R.length) (f:b<R.length) (h:lf.getD a br=bt) (i:lf.getD b br=bt) (g:ak5):tm (Y (cO R full g (eQ R.length E)),(a:Z),(b:Z),())=Y (x.bn (R.getD a 0) (R.getD b 0),()):=by obtain⟨l,j,k⟩:=d.r.ent a b e f h i;unfold tm;dsimp only;refine aj (y:=cO R full g (eQ R.length E)) rfl (aj (y:=l) (by rw[fq];exact j) (aj (y:=aw _) (by rw[fq];exact k) ?_));exact aj (OF (d.r.okd _ (d.r.mem e h) _ (d.r.mem f i))) rfl
theorem Xx (u:jc R full lf E x c) (M:c+4<1048576) {b:ak6} (p:∀f∈b,f<full/\lf.getD f br=bt) (dl:0<b.length) (N:x.choose=Y (b.map λf=>R.getD f 0)) (n:xp) (am:HK e) (del:X):ah (Eh (l8 n e del,cO R full lf (eQ R.length E),be b,())) λh=>
  ((x.de (b.map λf=>R.getD f 0)).fin/\∃B j,h=(l8 n (e++[x.de (b.map λf=>R.getD f 0)]) del,cO R full B (eQ R.length j),0,())/\jc R full B j (x.elim (b.map λf=>R.getD f 0)) (c+4))\/(¬(x.de (b.map λf=>R.getD f 0)).fin/\h.2.2.1=233):=by
 have d2:=u.r.fl;have a0:=u.r.ll;have F:=N4 N;have O:=Ak N;have S:∀f∈b,f<R.length:=λf o=>ae;have d6:b.length<=2:=by rcases O with k|⟨g,k,_⟩|⟨g,s,k,_⟩<;>have:=b4 cE k<;>simp only[di,ju,po] at this<;>omega
 have G:ar (be b)=(b.length:Z):=(by rw[a7,fX]);have d9:=u.r.sm;obtain⟨cs,cv,c1,c2⟩:=am;have d3:∀g,g<b.length->(b.map λf=>R.getD f 0).getD g 0=R.getD (b.getD g 0) 0:=λg q=>ae;have d7:∀g,(q:g<b.length)->b.getD g 0=b[g]:=λg q=>ae;generalize v:(b.map λf=>R.getD f 0)=a at*;have w:a.length=b.length:=ae;unfold Eh l8;dsimp only;refine bF (P:=λi=>i=((n,(be (e.flatMap aN.aQ++a),(e.map (λi=>(i.aQ.length:Z)),(e.flatMap aN.d,((e.flatMap cb).map il,((del:Z),())))))),cO R full (iS lf b) (eQ R.length E),mD x a b.length,())) ?_ ?_
 ·refine bP b.length (λg i=>i=((g:Z),(n,(be (e.flatMap aN.aQ++a.take g),(e.map (λi=>(i.aQ.length:Z)),(e.flatMap aN.d,((e.flatMap cb).map il,((del:Z),())))))),cO R full (iS lf (b.take g)) (eQ R.length E),mD x a g,())) ?_ ?_ ?_
  ·rw[xo,xo,oA];rfl
  rotate_left
  ·rintro _ rfl;dsimp only;rw[G,aP (aD (aa:¬(b.length:Z)<(b.length:Z))),cm,<-w,cm];grind [bu]
  rintro g _ q rfl;dsimp only;rw[G,aS (aI (aa:(g:Z)<(b.length:Z))),a9 aa];have T:=b1 q;have Q:=S _ T;have av:=(p _ T).2;refine bF (P:=λi=>i=((n,(be (e.flatMap aN.aQ++a.take g),(e.map (λi=>(i.aQ.length:Z)),(e.flatMap aN.d,((e.flatMap cb).map il,((del:Z),())))))),cO R full (iS lf (b.take g)) (eQ R.length E),mD x a (g+1),())) ?_ ?_
  ·refine bP (g+1) (λs i=>i=((s:Z),(n,(be (e.flatMap aN.aQ++a.take g),(e.map (λi=>(i.aQ.length:Z)),(e.flatMap aN.d,((e.flatMap cb).map il,((del:Z),())))))),cO R full (iS lf (b.take g)) (eQ R.length E),mD x a g++(bK s).map (λm=>x.bn (a.getD g 0) (a.getD m 0)),())) ?_ ?_ ?_
   ·grind
   ·rintro s _ d1 rfl;dsimp only;rw[aS (aI (aa:(s:Z)<((g+1:X):Z))),a9 aa];have L:s<b.length:=aa;have U:=b1 L;refine bC (nJ q) (bC (nJ L) (bC (u.value Q (S _ U) av (p _ U).2 _) ?_));dsimp only;have an:(mD x a g).length<=100:=by
     have:g=0\/g=1:=aa;rcases this with rfl|rfl
     ·exact(by decide:(0:X)<=100)
     exact(by decide:(1:X)<=100)
    rw[c9 ae,aF];grind [alu,alG,List.map_singleton,bu]
   rintro _ rfl;dsimp only;rw[aP (aD (aa:¬((g+1:X):Z)<((g+1:X):Z)))];grind [alu,bu,mD,bK]
  rintro _ rfl;dsimp only;refine bC (nJ q) ?_;have a4:(cO R full (iS lf (b.take g)) (eQ R.length E)).2.2.1=iS lf (b.take g):=rfl;have d5:(iS lf (b.take g)).length=R.length:=(KS _ _).trans a0;rw[a4];refine bC (eV aa) ?_;rw[gh (bV (aa:b[g]<(iS lf (b.take g)).length))];refine bC bq (bC (nJ q) ?_);dsimp only;have bl:(cO R full (iS lf (b.take g)) (eQ R.length E)).1=be R:=rfl;rw[bl,qX Q,c9 (by grind [amx,fX,alr,alj]),bM];refine bu.2 ?_;have ax:b.take (g+1)=b.take g++[b[g]]:=ag;have ad:a.take (g+1)=a.take g++[R[b[g]]]:=(by grind [ct,bV]);rw[ax,ad,aaL,<-alG,o7 (e.flatMap aN.aQ++a.take g)];rfl
 rintro _ rfl;dsimp only;have an:(mD x a b.length).length<=100:=by
  have:b.length=1\/b.length=2:=aa;rcases this with k|k<;>rw[k]
  ·exact(by decide:(1:X)<=100)
  exact(by decide:(3:X)<=100)
 rw[G,c9 ae,aF,c9 aa,aF];have A:∀f,f<R.length->(iS lf b).getD f br=(lf.getD f br&&bz (f∉b)):=λf o=>aaK b lf aa;have t:∀(h:df×bp eO×Z×bw),((x.de a).fin/\∃j,h=(cO R full (iS lf b) (eQ R.length j),(x.de a).cX.map il,0,())/\jc R full (iS lf b) j (x.elim a) (c+4))\/(¬(x.de a).fin/\h.2.2.1=233/\h.2.1=[])->mD x a b.length=x.gW a->
  (h.2.1.length<=1000)->
  ah ((cI (((e.flatMap cb).map il).length+h.2.1.length)).bind λ_=>Y (((n,(be (e.flatMap aN.aQ++a),((e.map (λi=>(i.aQ.length:Z))++[(b.length:Z)]),(e.flatMap aN.d++mD x a b.length,((e.flatMap cb).map il++h.2.1,((del:Z),())))))):HL),h.1,h.2.2.1,())) λh=>
  ((x.de a).fin/\∃B j,h=(l8 n (e++[x.de a]) del,cO R full B (eQ R.length j),0,())/\jc R full B j (x.elim a) (c+4))\/(¬(x.de a).fin/\h.2.2.1=233):=by
  rintro h l z d8;rw[c9 ae,aF];refine bu.2 ?_;rcases l with⟨J,j,rfl,K⟩|⟨J,K⟩
  ·refine .inl ⟨J,iS lf b,j,?_,K⟩;unfold l8;rw[z,mn,mn,mn,iK,iK];simp only[uS,aqy,oA,ir,sL];show _=((n,(be (e.flatMap aN.aQ++a),((e.map (λi=>(i.aQ.length:Z))++[(a.length:Z)]),(e.flatMap aN.d++x.gW a,((e.flatMap cb).map il++(x.de a).cX.map il,((del:Z),())))))),_,_,());rw[w]
  grind
 rcases O with k|⟨V,k,_⟩|⟨V,co,k,ds,d0,d4⟩
 ·grind
 ·rw[k] at w
  match b,w,p,v,A,t with
  |[f],_,p,v,A,t=>
   obtain⟨H,I⟩:=p f ac;have o:a=[R.getD f 0]:=v.symm;rw[aS af];have C:=afS u M H I (lf':=iS lf [f]) (KS _ _) A (F _ ae);rw[<-o] at C;have z:mD x a 1=[x.bn (R.getD f 0) (R.getD f 0)]:=(by rw[o];rfl);refine bF (P:=λi=>∃h:df×bp eO×Z×bw,(((x.de a).fin/\∃j,h=(cO R full (iS lf [f]) (eQ R.length j),(x.de a).cX.map il,0,())/\jc R full (iS lf [f]) j (x.elim a) (c+4))\/(¬(x.de a).fin/\h.2.2.1=233/\h.2.1=[]))/\i=(h.2.2.1,h.2.1,(n,(be (e.flatMap aN.aQ++a),((e.map (λi=>(i.aQ.length:Z))++[((1:X):Z)]),(e.flatMap aN.d++mD x a 1,((e.flatMap cb).map il,((del:Z),())))))),h.1,())) ?_ ?_
   ·refine bC (y:=(f:Z)) rfl ?_;have a3:∀{ci:Type} (D:Z->bA ci),rd (mD x a 1) 0 D=D (x.bn (R.getD f 0) (R.getD f 0)):=λD=>(by rw[z];rfl);show ah (rd (mD x a 1) 0 _) _;rw[a3];refine bF C ?_;rintro h l;exact bu.2 ⟨h,l,bq⟩
   rintro _ ⟨h,l,rfl⟩;dsimp only;refine t h l (by rw[o];rfl) ?_;rcases l with⟨_,j,rfl,_⟩|⟨_,_,k⟩
   ·show((x.de a).cX.map il).length<=1000;rw[o,di];show 1<=1000;decide
   grind
 rw[k] at w
 match b,w,p,v,A,t with
 |[f,m],_,p,v,A,t=>
  obtain⟨H,I⟩:=p f ac;obtain⟨bx,ce⟩:=p m ac;have o:a=[R.getD f 0,R.getD m 0]:=v.symm;have ap:f≠m:=λdg=>ae;rw[aP af];have C:=Xo u M H I bx ce ap (lf':=iS lf [f,m]) (KS _ _) A (F _ ae) (F _ ae);rw[<-o] at C;have z:mD x a 2=x.gW a:=(by rw[o];rfl);refine bF (P:=λi=>∃h:df×bp eO×Z×bw,(((x.de a).fin/\∃j,h=(cO R full (iS lf [f,m]) (eQ R.length j),(x.de a).cX.map il,0,())/\jc R full (iS lf [f,m]) j (x.elim a) (c+4))\/(¬(x.de a).fin/\h.2.2.1=233/\h.2.1=[]))/\i=(h.2.2.1,h.2.1,(n,(be (e.flatMap aN.aQ++a),((e.map (λi=>(i.aQ.length:Z))++[((2:X):Z)]),(e.flatMap aN.d++mD x a 2,((e.flatMap cb).map il,((del:Z),())))))),h.1,())) ?_ ?_
  ·refine bC (y:=(f:Z)) rfl (bC (y:=(m:Z)) rfl ?_);show ah ((AI (cO R full (iS lf [f,m]) (eQ R.length E),(f:Z),(m:Z),mD x a 2,())).bind _) _;rw[z];refine bF C ?_;rintro h l;exact bu.2 ⟨h,l,ae⟩
  rintro _ ⟨h,l,rfl⟩;dsimp only;refine t h l z ?_;rcases l with⟨_,j,rfl,_⟩|⟨_,_,k⟩
  ·show((x.de a).cX.map il).length<=1000;rw[o,di];show 2<=1000;decide
  grind
end
end
section
section
variable {R:ak6} {full:X}
structure Vh (R:ak6) (full:X) (uE:aZ) (n vh:X) (m:xp) (ps0:bp aN) (del:X) (lf:ak5) (E:X->X->fV) (y:aZ) (ps:bp aN) (k:X):Prop where
 x:jc R full lf E y (vh+4*ps.length)
 w:k1 y
 lt:y.full<k
 pl:ps.length+y.full<=uE.full
 run:alf n uE=(alf k y).map λq=>(q.1,ps++q.2)
 b:(ps.flatMap aN.aQ).length+y.full=uE.full/\(ps.flatMap aN.d).length<=3*ps.length/\(ps.flatMap cb).length=(ps.flatMap aN.aQ).length
theorem ael {l:aZ} {lf:ak5} {E:X->X->fV} {s:X} (D:jc R full lf E l s) (bs:k1 l) (dg:s+4*l.full+4<1048576) (a3:l.full<a) (p:xp) {ps0:bp aN} (d1:l.full<=100) (c2:(ps0.flatMap aN.aQ).length<=500/\ps0.length<=500/\(ps0.flatMap aN.d).length<=5000/\(ps0.flatMap cb).length<=5000) {del:X} (d0:del<=1000000):ah (Ej (l8 p ps0 del,cO R full lf (eQ R.length E),())) λn=>
  (∃c h e f q,alf a l=Y (c,h)/\n=(l8 p (ps0++h) (del+c.full),cO R full e (eQ R.length f),0,())/\jc R full e f c q/\q<=s+4*l.full)\/(alf a l=bv/\n.2.2.1=233):=by
 have d2:=D.r.fl;have d9:=D.r.sm;unfold Ej;dsimp only;refine bF (P:=λi=>(∃c h e f q,alf a l=Y (c,h)/\i=.inl (l8 p (ps0++h) del,cO R full e (eQ R.length f),())/\jc R full e f c q/\q<=s+4*l.full/\c.full<=l.full)\/(alf a l=bv/\∃n:HL×df×Z×bw,i=.inr n/\n.2.2.1=233)) ?_ ?_
 ·refine als (λi=>∃e f c h k,i=(l8 p (ps0++h) del,cO R full e (eQ R.length f),())/\Vh R full l a s p ps0 del e f c h k) (λi=>(i.2.1.2.2.1.filter λo=>o).length) ⟨lf,E,l,[],a,by rw[List.append_nil],D,bs,a3,ac,ac,ac⟩ ?_;rintro _ ⟨e,f,c,h,k,rfl,j⟩;dsimp only;have d6:=j.lt;have d7:=j.pl;obtain⟨k,rfl⟩:∃co,k=co+1:=⟨k-1,aa⟩;refine bF j.x.r.choose ?_;rintro n (⟨L,M⟩|⟨g,rfl,Q,t⟩)
  ·obtain⟨V,o,_⟩:=n;dsimp only at L;subst L;dsimp only;rw[aS af];refine bu.2 (.inr ⟨?_,_,bq,bq⟩);rw[j.run,Cu M];rfl
  dsimp only;rw[aP af,a7,fX];by_cases C:g=[]
  ·subst C;rw[aS af];refine bu.2 (.inl ⟨c,h,e,f,_,?_,bq,j.x,aa,aa⟩);rw[j.run,zk t];simp
  have T:0<g.length:=zS.2 C;rw[aP (by rw[gp,aD aa])];obtain⟨i1,ek,el⟩:=j.b;have an:HK (ps0++h):=(by grind [alr,HK]);have u:=Ak t;have ci:0<c.full:=(by have a0:=Q _ (cK T);have:=j.x.r.Qu (k:=g[0]) aa a0.2;grind);refine bF (Xx j.x aa Q T t p an del) ?_;rintro n (⟨y,A,kI,rfl,v⟩|⟨y,z⟩)
  ·dsimp only;rw[aP af];have N:∀(lf:ak5) (c:aZ) (K:X) (E:X->X->fV),jc R full lf E c K->(lf.filter λo=>o).length=c.rows.length:=λlf c K E U=>by
    rw[U.r.rows,F7,di];unfold e4;rw[<-U.r.ll];have:lf=(bK lf.length).map λk=>lf.getD k br:=by refine ig λk=>?_;grind
    conv=>lhs;rw[this]
    rw[apc,di];rfl
   have ad:(g.map λk=>R.getD k 0).length=g.length:=di _;have d5:g.length<=c.full:=(by obtain⟨G,I⟩:=u.props;have:=G.length_le_of_subset I;grind);have d8:(c.elim (g.map λk=>R.getD k 0)).rows.length<c.rows.length:=(by obtain⟨G,I⟩:=u.props;have:=FA j.w.nd G λi a4=>uT (I i a4);show(c.rows.filter _).length<_;omega);refine bu.2 ⟨⟨A,kI,c.elim (g.map λk=>R.getD k 0),h++[c.de (g.map λk=>R.getD k 0)],k,by rw[jd],?_,j.w.elim u,?_,?_,?_,?_⟩,?_⟩
   ·grind
   ·show c.full-(g.map λk=>R.getD k 0).length<k;omega
   ·show(h++[_]).length+(c.full-(g.map λk=>R.getD k 0).length)<=_;grind
   ·rw[j.run,uv t aa,aB y];cases alf k (c.elim (g.map λk=>R.getD k 0)) with
    |none=>rfl
    |some i=>simp
   ·have H:=j.w.Sp u aa y (S:=c.rows) λm O=>O;have F:(c.de (g.map λk=>R.getD k 0)).aQ.length=g.length:=ad;have ap:(c.de (g.map λk=>R.getD k 0)).cX.length=g.length:=by
     unfold cb;rw[di,H.len,F]
    have av:=H.dl;have am:=H.at1;simp only[mn,uS,aqy,oA,hq,nr];rw[F,ap];rw[F] at av am;refine⟨?_,?_,aa⟩
    ·show _+(c.full-(g.map λk=>R.getD k 0).length)=_;omega
    omega
   show(am6 _ (cO R full A _).2.2.1).length<(am6 _ (cO R full e _).2.2.1).length;have ax:=N A _ _ _ v;have c1:=N e _ _ _ j.x;show(A.filter λo=>o).length<(e.filter λo=>o).length;omega
  obtain⟨V,o,cv,_⟩:=n;dsimp only at z;subst z;dsimp only;rw[aS af];refine bu.2 (.inr ⟨?_,_,bq,bq⟩);rw[j.run,uv t ae,ck y];rfl
 rintro i (⟨c,h,e,f,q,z,rfl,v,ds,ci⟩|⟨z,n,rfl,M⟩)
 rotate_left
 ·grind [bu]
 dsimp only;have bx:=v.r.full;refine bF (P:=λi=>i=(l8 p (ps0++h) (del+c.full),cO R full e (eQ R.length f),())) ?_ (by grind [bu]);rw[bx];refine bP full (λm i=>i=((m:Z),l8 p (ps0++h) (del+(fk R e m).length),cO R full e (eQ R.length f),())) rfl ?_ ?_
 ·rintro m _ O rfl;dsimp only;have J:(cO R full e (eQ R.length f)).2.1=(full:Z):=rfl;have ce:(cO R full e (eQ R.length f)).2.2.1=e:=rfl;have d4:=v.r.ll;rw[J,aS (aI (aa:(m:Z)<(full:Z))),a9 aa,ce];have bl:∀{cs:Type} (B:bD->bA cs),rd e (m:Z) B=B (e.getD m br):=λB=>by
   grind [eV,gh,bV,rd]
  rw[bl];have d3:=Ko R e m;refine bF (P:=λi=>i=(l8 p (ps0++h) (del+(fk R e (m+1)).length),cO R full e (eQ R.length f),())) ?_ (by grind [bu]);rw[yM];cases C:e.getD m br with
  |true=>
   rw[bI,b9 bq,alr,amx];refine bu.2 ?_;unfold l8;dsimp only;rw[a9 aa];rfl
  |false=>
   rw[bR,aA ab];grind [bu]
 rintro _ rfl;dsimp only;have J:(cO R full e (eQ R.length f)).2.1=(full:Z):=rfl;rw[J,aP (aD (aa:¬(full:Z)<(full:Z)))];grind [bu]
end
end
def km:c3:=([],([],([],([],([],([],(0,())))))))
def kx (a:bp aZ):X:=(a.map aZ.full).sum
def kf (c:X->X->ak1) (d:ak7) (a:bp eE):c3×Z×bw:=match hO c a a.length with
 |none=>(km,233,())
 |some b=>(n3 d b.2 (kx b.1:Z),0,())
def Jy {a:X->X->ak1} {b:bp eE} {c:X} (e:hO a b c=bv):∀d,hO a b (c+d)=bv
 |0=>e
 |d+1=>by show(hO a b (c+d)).bind _=bv;rw[Jy e d];rfl
theorem Ja (a:bp aZ) (b:aZ):kx (a++[b])=kx a+b.full:=by grind [kx]
theorem Oy {n:X} {L:bp aZ} (c:∀b,b<L.length->(L.getD b hx).full<=n):kx L<=n*L.length:=by
 unfold kx;have:∀a∈L,a.full<=n:=λa d=>(by grind [bV,amc]);clear c
 induction L with
 |nil=>grind
 |cons a L e=>
  grind [List.length_cons,Nat.mul_succ]
theorem Z2 (c:aZ->k) {b:bp aZ} (e:b.length=a):(bK a).map (λd=>c (b.getD d hx))=b.map c:=by refine ig λf=>?_;grind
theorem aez {e:bp eE} (l:gU h e) (o:h.length=a) (m:∀q r,cN (g q r)) (K:a<=64) {u:ny} (M:d.length=a) (F:∀q r:X,q<a->r<a->vJ (u,d,(q:Z),(r:Z),())=Y (aw (g q r),())) (G:vK (u,d,e,())=Y (0,())):nF (u,d,e,())=Y (kf g d e):=by
 have V:=FG l;unfold nF;refine aj G ?_;dsimp only;rw[aP af];refine bQ.1 ?_;refine bF (P:=λj=>(hO g e e.length=bv/\j=.inr (km,233,()))\/∃b f,hO g e e.length=Y (b,f)/\j=.inl ((kx b:Z),km,f.map jK,())) ?_ ?_
 ·refine bP e.length (λi j=>∃b f,hO g e i=Y (b,f)/\j=((kx b:Z),br,(i:Z),km,b.map gq,f.map jK,())) ⟨[],[],bq,bq⟩ ?_ ?_
  rotate_left
  ·rintro _ ⟨b,f,s,rfl⟩;dsimp only;rw[a7,aP (aD (aa:¬(e.length:Z)<(e.length:Z)))];grind [bu]
  rintro i _ C ⟨b,f,I,rfl⟩;dsimp only;rw[a7,aS (aI (aa:(i:Z)<(e.length:Z))),a9 aa];obtain⟨y,k⟩:=qH m l o aa I;have t:=amU l o C;have z:=aeO l o C k m aa aa F;rw[Z2 gq y] at z;refine bC z ?_;dsimp only;have ap:=k.Du g m t;have D:=k.ve m t;have an:hO g e (i+1)=(alf ((h6 g e (λc=>b.getD c hx) i).full+1) (h6 g e (λc=>b.getD c hx) i)).map λj=>(b++[j.1],f++j.2):=(by grind [hO]);have av:=D.full;generalize h6 g e (λc=>b.getD c hx) i=v at*;have J:ar (gq v).1=(v.rows.length:Z):=(by rw[a7];exact b4 _ (fX _));rw[J,aP (aD (aa:¬(v.rows.length:Z)>64))];have am:f.length<=a:=(by have w:=(Cc k.de).1;have x:=k.perm.length_eq;rw[alr,amf] at x;have Q:=t.xR;have R:=t.Dx;omega);refine bF (aft D aa (alS _) km (b.map gq) (pv0:=f.map jK) ae) ?_;rintro j (⟨p,E,N,rfl,a3⟩|⟨N,B⟩)
  ·dsimp only;rw[aP af,c9 ae,bM];have A:hO g e (i+1)=Y (b++[p],f++E):=ae;obtain⟨S,H⟩:=qH m l o aa A;have U:=Oy (n:=a) (L:=b) λc T=>(k.fl aa).1;have a0:p.full<=a:=by
    have:=(H.fl (c:=i) aa).1;grind
   have ad:a*b.length<=64*64:=mV K aa;refine bu.2 ⟨b++[p],f++E,A,?_⟩;rw[Ja];have O:az ((kx b:Z)+(gq p).2.1)=((kx b+p.full:X):Z):=(by show az ((kx b:Z)+(p.full:Z))=_;grind [cF]);grind
  obtain⟨a4,_⟩:=j;dsimp only at B;subst B;dsimp only;rw[aS af];refine bu.2 (.inl ⟨?_,bq⟩);have w:hO g e (i+1)=bv:=ae;have x:=Jy w (e.length-(i+1));grind
 rintro j (⟨s,rfl⟩|⟨b,f,s,rfl⟩)
 ·unfold kf;grind [bu]
 dsimp only;unfold kf;rw[s];obtain⟨y,k⟩:=qH m l o (cc _) s;refine bC (aeS M aa (k.all l o) k.de _) ?_;grind [bu]
section
def lG (n:X):X->X
 |0=>0
 |t+1=>lG n t+(1+lG n t+4*n)
theorem OG (n:X):∀t,lG n t+(4*n+1)=(4*n+1)*2^t
 |0=>by simp[lG]
 |t+1=>by have:=OG n t;grind [Nat.pow_succ,Nat.mul_assoc,lG]
def OH {n t:X} (e:n<=12) (b:t<=12):lG n t<=200704:=by have c:=OG n t;have a:2^t<=2^12:=u0 ab b;have d:=mV (aa:4*n+1<=49) a;omega
section
variable {l:bp eE} {n t:X} {L:X->aZ} {A:X->X->ak1}
theorem O2 {L:X->aZ} {D:X->X}:∀{cs:ak6} {x:aZ} {k:X},(∀c∈cs,xc (D c) (L c))->k+(cs.map D).sum<1048576->(∀a:X,a=65536->∀b d,bf a 3222 3072 k (x.s b d))->∀a:X,a=65536->∀b d,bf a 3222 3072 (k+(cs.map D).sum) ((cs.foldl (λx c=>x.plus (L c)) x).s b d)
 |[],x,k,_,_,f=>by grind
 |c::cs,x,k,g,j,f=>by
  rw[ir,aqz] at j|-;rw[ans,<-sM];refine O2 (k:=k+D c) (λi l=>g i ae) aa λa e b d=>?_;show bf a 3222 3072 _ (if _ then _ else _);split
  ·rename_i h;exact(ant e ab (f a e b d) (g c ac a e b h.1 d h.2) aa).1
  exact(f a e b d).mono (bg _) (bg _) aa
theorem TK (b:X->X) (c:X->bD):∀l:ak6,((l.filter c).map b).sum<=(l.map b).sum
 |[]=>bg _
 |a::l=>by have:=TK b c l;grind
def TJ (n:X):∀t,((bK t).map λa=>1+lG n a+4*n).sum=lG n t
 |0=>rfl
 |t+1=>by rw[je,iK,aqA,TJ n t,lG];simp
theorem XQ (j:∀b:X,b=65536->∀c d,bf b 3222 3072 1 (A c d)) (h:n<=12) (i:t<=12) (f:∀a,a<t->xc (1+lG n a+4*n) (L a)):xc (1+lG n t) (h6 A l L t):=by
 intro b e c _ d _;have o:((eJ l t t).map λa=>1+lG n a+4*n).sum<=lG n t:=(by have:=TK (λa=>1+lG n a+4*n) (λa=>bz (gH l a=(t:Z))) (bK t);rwa[TJ] at this);have m:=OH h i;have:=O2 (L:=L) (D:=λa=>1+lG n a+4*n) (cs:=eJ l t t) (x:=kw A l L t) (k:=1) (λa g=>f a (BO.1 g).1) aa (λb e c d=>by
  show bf b 3222 3072 1 (if _ then _ else _);split
  ·grind
  exact apg) b e c d
 exact this.mono (bg _) (bg _) aa
theorem Yh (g:l.length<=1000) (f:∀d∈l,d.2.2.1.length<=64):Ew (l,(),())=Y (br,()):=by
 have c:Ey (l,(),())=Y (-1,()):=by
  unfold Ey;refine bQ.1 ?_;dsimp only;refine bF (P:=λb=>b=.inl ()) ?_ (by grind [bu]);refine bP l.length (λa b=>b=((a:Z),())) rfl ?_ ?_
  ·rintro a _ c rfl;dsimp only;rw[a7,aS (aI (aa:(a:Z)<(l.length:Z))),a9 aa];refine bC (y:=l[a]) (by rw[fq,bV c]) ?_;have e:D5 (l[a],())=Y (br,()):=by
    grind [a7,aD,b1,D5]
   refine bC e ?_;dsimp only;rw[bR];grind [bu]
  rintro _ rfl;dsimp only;rw[a7,aP (aD (aa:¬(l.length:Z)<(l.length:Z)))];grind [bu]
 unfold Ew;grind
end
structure HI (n t:X) (UH:X->l4) (L:X->aZ):Prop where
 p:∀c,c<t->M3 n (UH c) (L c)
 ex:∀c,c<t->xc (1+lG n c+4*n) (L c)
theorem adS {l:bp eE} {n:X} {A:X->X->ak1} (u:gU h l) (y:h.length=n) (J:∀w x,cN (A w x)) (dl:∀M:X,M=65536->∀w x,bf M 3222 3072 1 (A w x)) (S:n<=12) {O:ny} (d8:d.length=n) (d2:qF (O,d,())=Y (Y (j,(h,()),i,()),0,())) (c2:∀w x:X,w<n->x<n->vR (Y (j,(h,()),i,()),(w:Z),(x:Z),())=Y (aw (A w x),())) (dg:vQ ((h,()),l,())=Y (0,())):m1 (O,d,l,())=Y (kf A d l):=by
 have f3:=FG u;have ds:∀t,(B:t<l.length)->aq l (t:Z)=Y ((bk l t:Z),(bk l (t+1):Z),g6 l (t:Z),gH l t,()):=λt B=>(by rw[fq];exact(amU u y B).g);have el:∀k∈l,k.2.2.1.length<=64:=λk fr=>(by obtain⟨t,v,rfl⟩:=amc.1 fr;have C:=amU u y v;have G:=C.g;rw[bV v] at G;have H:=C.C9;grind [al6,g6,h2]);unfold m1;refine aj d2 ?_;dsimp only;rw[aP af];refine aj bq (aj dg ?_);dsimp only;rw[aP af];refine aj (Yh aa el) ?_;dsimp only;rw[bR,a7,hP aa,bM];refine bQ.1 ?_;generalize f4:(Y (j,(h,()),i,()):xp)=I at*;refine bF (P:=λe=>(hO A l l.length=bv/\e=.inr (km,233,()))\/∃L f,hO A l l.length=Y (L,f)/\e=.inl (km,l8 I f (kx L),())) ?_ ?_
 ·refine bP l.length (λt e=>∃L f m,hO A l t=Y (L,f)/\HI n t m (λa=>L.getD a hx)/\e=((t:Z),km,l8 I f (kx L),aC l.length (λc=>(eJ l t c).map λa=>(m a).enc),())) ?_ ?_ ?_
  ·refine⟨[],[],λ_=>⟨[],0,[],[]⟩,bq,⟨λa D=>by omega,λa D=>by omega⟩,?_⟩;rw[iF];rfl
  rotate_left
  ·rintro _ ⟨L,f,m,B,_,rfl⟩;dsimp only;rw[aP (aD (aa:¬(l.length:Z)<(l.length:Z)))];grind [bu]
  rintro t _ v ⟨L,f,m,d4,R,rfl⟩;dsimp only;rw[aS (aI (aa:(t:Z)<(l.length:Z))),a9 aa];obtain⟨d1,q⟩:=qH J u y aa d4;have C:=amU u y v;have ad:=q.ve J C;have fn:=q.Du A J C;have eq:=XQ (l:=l) dl S (aa:t<=12) R.ex;have a3:=V8 u y v q J (aa:n<=64) R.p c2;have co:=jC.start ad aa;have f8:hO A l (t+1)=(alf ((h6 A l (λa=>L.getD a hx) t).full+1) (h6 A l (λa=>L.getD a hx) t)).map λe=>(L++[e.1],f++e.2):=(by grind [hO]);have fp:=ad.full;generalize f7:h6 A l (λa=>L.getD a hx) t=b at*;rw[<-aag] at a3 co;have d3:jc b.rows b.full (bJ b.rows.length bt) (λO cs=>aw (b.s (b.rows.getD O 0) (b.rows.getD cs 0))) b (1+lG n t):=⟨co,eq⟩;have f2:=OH S (aa:t<=12);obtain⟨aE,f9,gc⟩:=Cc q.de;have f6:(f.flatMap aN.aQ).length<=n:=(by have H:=q.perm.length_eq;rw[alr,amf] at H;have cv:=C.xR;have c1:=C.Dx;omega);have f1:=Oy (n:=n) (L:=L) λa D=>(q.fl aa).1;have f5:n*L.length<=12*12:=Nat.mul_le_mul S aa;have d9:=ael d3 ad aa (alS _) I (ps0:=f) aa aa (del:=kx L) aa;refine bF (P:=λe=>(hO A l (t+1)=bv/\e=.inr (.inr (.inr (km,233,()))))\/∃N am T,hO A l (t+1)=Y (N,am)/\HI n (t+1) T (λa=>N.getD a hx)/\e=.inl (km,l8 I am (kx N),aC l.length (λc=>(eJ l (t+1) c).map λa=>(T a).enc),())) ?_ ?_
  rotate_left
  ·rintro _ (⟨G,rfl⟩|⟨N,am,T,G,H,rfl⟩)
   ·dsimp only;refine bu.2 (.inl ⟨?_,bq⟩);have H:=Jy G (l.length-(t+1));rwa[(aa:t+1+(l.length-(t+1))=l.length)] at H
   grind [bu]
  refine bC (ds t v) ?_;have ek:∀{ft:Type} (o:X->bp (bA df)) (U:bp (bA df)->bA ft),rd (aC l.length o) (t:Z) U=U (o t):=λo U=>(by unfold rd;rw[cU,eV v,bM,gh (h0 v),bM]);rw[ek];refine bC a3 ?_;dsimp only;refine bF (P:=λe=>(∃k F E z Q,alf (b.full+1) b=Y (k,F)/\e=(0,km,l8 I (f++F) (kx L+k.full),aC l.length (λc=>(eJ l t c).map λa=>(m a).enc),((bk l t:Z),(bk l (t+1):Z),g6 l (t:Z),gH l t,()),cO b.rows b.full E (eQ b.rows.length z),())/\jc b.rows b.full E z k Q/\Q<=1+lG n t+4*b.full)\/(alf (b.full+1) b=bv/\e.1=233)) ?_ ?_
  ·rw[aS af];refine bF d9 ?_;rintro ge (⟨k,F,E,z,Q,G,rfl,cv,c1⟩|⟨G,H⟩)
   ·grind [bu]
   grind [bu]
  rintro e (⟨k,F,E,z,Q,em,rfl,a0,fT⟩|⟨em,ci⟩)
  rotate_left
  ·obtain⟨fz,_⟩:=e;dsimp only at ci;subst ci;dsimp only;rw[aS af];refine bu.2 (.inl ⟨ae,bq⟩)
  dsimp only;rw[aP af];have a4:hO A l (t+1)=Y (L++[k],f++F):=ae;have bl:∀a,a<t->(L++[k]).getD a hx=L.getD a hx:=λa D=>(by rw[aqB,aqB,List.getElem?_append_left aa]);have bx:(L++[k]).getD t hx=k:=ag;generalize ce:(⟨b.rows,b.full,E,eQ b.rows.length z⟩:l4)=K;have d7:K.enc=Y (cO b.rows b.full E (eQ b.rows.length z)):=(by rw[<-ce];rfl);have av:HI n (t+1) (λa=>if a=t then K else m a) (λa=>(L++[k]).getD a hx):=by
   refine⟨λa D=>?_,λa D=>?_⟩
   ·by_cases o:a=t
    ·subst o;rw[aB bq,bx,<-ce];exact⟨a0.r,fn⟩
    rw[aA o,bl a aa];exact R.p a aa
   by_cases o:a=t
   ·subst o;rw[bx];intro M d0 w d5 x d6;have:=fp;exact(a0.ex M d0 w d5 x d6).mono (bg _) (bg _) aa
   rw[bl a aa];exact R.ex a aa
  have V:∀c,((eJ l t c).map λa=>((if a=t then K else m a):l4).enc)=(eJ l t c).map λa=>(m a).enc:=λc=>iL λa D=>(by have:=(BO.1 D).1;rw[aA aa]);rcases GH u y v with⟨an,_⟩|⟨c,an,gf,ap,_⟩
  ·rw[aP (aD (aa:¬gH l t>=0))];refine bu.2 (.inr ⟨L++[k],f++F,_,a4,av,?_⟩);rw[Ja];have:(aC l.length λc=>(eJ l (t+1) c).map λa=>((if a=t then K else m a):l4).enc)=aC l.length λc=>(eJ l t c).map λa=>(m a).enc:=c4 λc _=>by
    rw[Al,aA aa,V]
   grind
  rw[aS (aI (aa:gH l t>=0)),an];refine bC (eV (by grind [cU])) ?_;rw[gh (h0 ap),aF];have f0:((eJ l t c).map λa=>(m a).enc).length<=1000:=(by rw[di];have:(eJ l t c).length<=t:=(by unfold eJ;grind);omega);rw[c9 ae,aF];refine bC (eV (by grind [cU])) ?_;rw[aS ac,gh (h0 ap),aF,gh (h0 ap),aF];refine bu.2 (.inr ⟨L++[k],f++F,_,a4,av,?_⟩);rw[Ja,ha];have:(aC l.length λc=>(eJ l (t+1) c).map λa=>((if a=t then K else m a):l4).enc)=aC l.length (eK (λc=>(eJ l t c).map λa=>(m a).enc) c (((eJ l t c).map λa=>(m a).enc)++[Y (cO b.rows b.full E (eQ b.rows.length z))])):=c4 λfs _=>by
   rw[Al];by_cases o:fs=c
   ·subst o;rw[gA,aB an,iK,V,xl,aB bq,d7]
   rw[gT _ _ o,aA aa,V]
  grind
 rintro e (⟨B,rfl⟩|⟨L,f,B,rfl⟩)
 ·unfold kf;grind [bu]
 dsimp only;unfold kf;rw[B];obtain⟨d1,q⟩:=qH J u y (cc _) B;refine bC (ad6 d8 S (q.all u y) q.de _ I) ?_;grind [bu]
end
section
def G5 (c:X->X->bD) (e d a b:X):bD:=c a b||(bz (a=e)&&bz (b=d))
theorem O5 {n e:X}:aC b (eK (λd=>aC n (c d)) a (aC n (eK (c a) e bt)))=aC b (λd=>aC n (G5 c a e d)):=
 c4 λd _=>by grind [gT,c4,gA,G5]
def l9 (a:X->X) (b:X):eE:=((a b:Z),(a (b+1):Z),[],-1,())
structure ow (G:akW) (n j F:X) (c:X->X) (T:X->X->bD):Prop where
 z:c 0=0
 e:c F=j
 m:∀f,f<F->c f<c (f+1)
 t:∀f i,f<F->i<n->(T f i=bt↔∃m,c f<=m/\m<c (f+1)/\(i:Z)∈hh G m)
theorem aad (e:∀d,d<a->l d<l (d+1)):∀c b,c<b->b<=a->l c<l b:=by
 intro c b f
 induction b with
 |zero=>omega
 |succ b g=>
  grind
theorem P4 (d:∀c,c<a->l c<l (c+1)):∀b,b<=a->l 0+b<=l b:=by
 intro b
 induction b with
 |zero=>omega
 |succ b e=>
  grind
section
variable {G:akW} {n:X} (D:G.length=n) (B:fw G) (H:n<=7) {A:ak7} (C:A.length<=9223372036854775807)
include D B H C
theorem W7:ah (loop (σ:=(Z×iu×bp gQ×bw)) (ρ:=kN) (λ(k,M,H,_)=>
 bif bz (k<ar (aC n (hh G))) then
 bE (α:=kN) (
 bE (α:=kN) (
 bE (α:=(bD×iu×bp gQ×bw)) (bif (k==0)==br then(vF (A,az (900+k),())).bind λ(d0,_)=>
 (eT bG d0 7).bind λd3=>
 (jq d3 3).bind λd4=>
 Y (bz (d4>0),M,H,()) else Y (bt,M,H,())) λ(d1,N,I,_)=>
  bif d1 then
 (cI (N.length+([(k,(aO k,(([]:bj),((-1:Z),()))))]).length)).bind λ_=>
 (fS (ar (aC n (hh G))) (ar (aC n (hh G)))).bind λa0=>
 (cI (I.length+([bJ a0 br]).length)).bind λ_=>
 Y ((N++[(k,(aO k,(([]:bj),((-1:Z),()))))]),(I++[bJ a0 br]),()) else
 Y (N,I,())) λ(D,bx,_)=>
 (bm D.length (az (ar D-1))).bind λV=>
 (ba D V λQ=>Y (D.set V (Q.1,(aO k,Q.2.2)))).bind λd8=>
 (loop (σ:=(Z×iu×bp gQ×bw)) (ρ:=kN) (λ(L,av,x,_)=>
 (aq (aC n (hh G)) k).bind λd5=>
  bif bz (L<ar d5) then
 (bm x.length (az (ar D-1))).bind λK=>
 (aq (aC n (hh G)) k).bind λd6=>
 (aq d6 L).bind λd7=>
 ((ba x K λa4=>Y a4).bind λbl=>bm bl.length d7).bind λam=>
 (ba x K λR=>(ba R am λ_=>Y (R.set am bt)).map λd9=>x.set K d9).bind λek=>
 Y (.inl (aO L,av,ek,())) else
 Y (.inr (av,x,()))) (0,d8,bx,())).bind λ(dg,ce,_)=>
 Y (dg,ce,())) λ(dl,ci,_)=>
 Y (.inl (aO k,dl,ci,())) else
 Y (.inr (M,H,()))) (0,[],[],())) (λds=>∃f h i,ow G n n f h i/\ds=(aC f (l9 h),aC f (λa=>aC n (i a)),())):=by
 refine bP n (λc O=>∃f h i,ow G n c f h i/\O=((c:Z),aC f (l9 h),aC f (λa=>aC n (i a)),())) ⟨0,λ_=>0,λ_ _=>br,⟨bq,bq,λa u=>absurd u (zX _),λa g u=>absurd u (zX _)⟩,bq⟩ ?_ ?_
 ·rintro c _ J ⟨f,h,i,j,rfl⟩;have ex:=P4 j.m f (cc _);have fl:=j.z;have fn:=j.e;dsimp only;rw[a7,cU,aS (aI (aa:(c:Z)<(n:Z))),a9 aa];refine bF (P:=λs=>∃(b:X) (d:X->X) (l:X->X->bD),d 0=0/\(∀a,a<b->d a<d (a+1))/\d b<=c/\b<=c/\(∀a g,a<b+1->g<n->(l a g=bt↔∃r,d a<=r/\r<eK d (b+1) (c+1) (a+1)/\(g:Z)∈hh G r))/\s=(aC (b+1) (l9 (eK d (b+1) (c+1))),aC (b+1) (λa=>aC n (l a)),())) ?_ ?_
  ·refine bF (P:=λs=>∃(b:X) (d:X->X) (l:X->X->bD) (F:Z),d 0=0/\(∀a,a<b->d a<d (a+1))/\d b<=c/\b<=c/\(∀a g,a<b+1->g<n->(l a g=bt↔∃r,d a<=r/\r<eK d (b+1) c (a+1)/\(g:Z)∈hh G r))/\s=(aC (b+1) (eK (l9 d) b ((d b:Z),F,[],-1,())),aC (b+1) (λa=>aC n (l a)),())) ?_ ?_
   ·refine bF (P:=λs=>∃E:bD,s=(E,aC f (l9 h),aC f (λa=>aC n (i a)),())/\(E=br->0<c)) ?_ ?_
    ·rw[gp];by_cases o:c=0
     ·rw[aP (by simp[o])];grind [bu]
     rw[aS (by simp[o])];refine bF (Mu A C _) ?_;rintro⟨d2,_⟩ c1;dsimp only at c1|-;obtain⟨a3,c2⟩:∃a3,eT bG d2 7=some a3:=⟨_,b9 ab⟩;refine bC c2 ?_;unfold jq;rw[b9 ab,bM];grind [bu]
    rintro _ ⟨E,rfl,co⟩;dsimp only;cases E with
    |true=>
     rw[bI,c9 (by grind [cU]),aF];refine bC (hP aa) ?_;rw[c9 (by grind [cU]),aF];refine bu.2 ⟨f,h,(λa g=>if a<f then i a g else br),((c+1:X):Z),j.z,j.m,aa,aa,?_,?_⟩
     ·intro a g v q;dsimp only;by_cases o:a<f
      ·rw[aB o,gT _ _ aa];exact j.t a g o q
      obtain rfl:a=f:=aa;rw[aA o,gA];grind
     have ax:aC f (l9 h)++[((c:Z),((c+1:X):Z),([]:ak7),(-1:Z),())]=aC (f+1) (eK (l9 h) f ((h f:Z),((c+1:X):Z),[],-1,())):=(by grind [c4,gT,r0,gA]);have el:aC f (λa=>aC n (i a))++[bJ n br]=aC (f+1) (λa=>aC n (λg=>if a<f then i a g else br)):=(by simp_all [c4,aB,xq,if_false,r0,iF]);grind
    |false=>
     have fr:=co bq;rw[bR];obtain⟨b,rfl⟩:∃b,f=b+1:=⟨f-1,by
      grind⟩
     have fs:=j.m b aa;refine bu.2 ⟨b,h,i,(c:Z),j.z,λa v=>j.m a aa,aa,aa,?_,?_⟩
     ·intro a g v q;rw[j.t a g v q];grind [gT,gA]
     grind [c4,gA,gT,l9]
   rintro _ ⟨b,d,l,F,T,U,ad,an,ap,rfl⟩;dsimp only;rw[a7,cU,show az (((b+1:X):Z)-1)=(b:Z) by rw[(aa:((b+1:X):Z)-1=(b:Z)),cF aa aa]];refine bC (eV (alS b)) ?_;rw[gV (alS b),gA,ha];refine bC bq ?_;have ax:aC (b+1) (eK (eK (l9 d) b ((d b:Z),F,[],-1,())) b ((d b:Z),((c+1:X):Z),[],-1,()))=aC (b+1) (l9 (eK d (b+1) (c+1))):=c4 λa v=>by
    by_cases o:a=b
    ·simp_all [gA,gT,l9]
    grind [gT,l9]
   dsimp only;rw[ax];have cs:∀p,(u:p<(hh G c).length)->∃g:X,(hh G c)[p]=(g:Z)/\g<n:=λp u=>(by obtain⟨g,em,eq,_⟩:=On B (b1 u);grind);have fp:(hh G c).length<=n:=(by grind [WR]);refine bF (P:=λs=>s=(aC (b+1) (l9 (eK d (b+1) (c+1))),aC (b+1) (λa=>aC n (λw=>l a w||(bz (a=b)&&bz ((w:Z)∈hh G c)))),())) ?_ ?_
   ·refine bP (hh G c).length (λp O=>O=((p:Z),aC (b+1) (l9 (eK d (b+1) (c+1))),aC (b+1) (λa=>aC n (λw=>l a w||(bz (a=b)&&bz ((w:Z)∈(hh G c).take p)))),())) ?_ ?_ ?_
    ·simp
    ·rintro p _ S rfl;dsimp only;refine bC (r7 J) ?_;rw[a7,aS (aI (aa:(p:Z)<((hh G c).length:Z))),cU];refine bC (eV (alS b)) ?_;refine bC (r7 J) (bC (eP S) ?_);obtain⟨g,q,cv⟩:=cs p S;rw[q,gV (alS b)];refine bC (y:=g) (by grind [eV,cU]) ?_;rw[gV (alS b),gV cv,ha,amP,ha,O5,a9 aa];refine bC bq (bu.2 ?_);congr 3;refine c4 λa _=>c4 λw _=>?_;grind [ct,bV,G5]
    rintro _ rfl;dsimp only;refine bC (r7 J) ?_;rw[a7,aP (aD (aa:¬(((hh G c).length:X):Z)<((hh G c).length:Z))),cm];grind [bu]
   rintro _ rfl;dsimp only;refine bu.2 ⟨b,d,_,T,U,ad,an,?_,bq⟩;intro a g v q;rw[Bool.or_eq_true,ap a g v q];by_cases o:a=b
   ·subst o;rw[gA,gA];grind
   grind [gT]
  rintro _ ⟨b,d,l,T,U,ad,an,ap,rfl⟩;dsimp only;refine bu.2 ⟨b+1,eK d (b+1) (c+1),l,⟨?_,gA _ _ _,?_,?_⟩,bq⟩
  ·grind [gT]
  ·grind [gT,gA]
  grind [gT]
 rintro _ ⟨f,h,i,j,rfl⟩;dsimp only;rw[a7,cU,aP (aD (aa:¬((n:Z)<(n:Z))))];grind [bu]
end
end
section
theorem agT (a:X->k) (b:X):eK a b (a b)=a:=by grind [eK]
theorem Uh (b:X->k) (a:X) (d c:k):eK (eK b a d) a c=eK b a c:=by grind [eK]
def h3 (a:X->X->bD) (b c:X):ak7:=((bK c).filter (a b)).map λd:X=>(d:Z)
theorem Tg:h3 c b (a+1)=if c b a=bt then h3 c b a++[(a:Z)] else h3 c b a:=by grind [alu,h3]
theorem Tf {T:X->X->bD} {f i:X}:(h3 T f i).length<=i:=by grind [cu,alB,b6,h3]
def ql (c:X->X) (F:X) (e:X->X->bD) (b g:X) (h:Z):Prop:=
 (h=-1/\∀a,a<g->e b a=bt->a<c (b+1))\/
 (∃a d:X,a<g/\e b a=bt/\c (b+1)<=a/\(∀f,f<a->e b f=bt->f<c (b+1))/\h=(d:Z)/\b<d/\d<F/\c d<=a/\a<c (d+1))
def ln (c:X->X) (b:X->X->bD) (d f:X) (g:Z) (e a:X):bD:=b e a||(bz (g=(e:Z))&&bz (c (d+1)<=a)&&bz (a<f)&&b d a)
structure nQ (G:akW) (n F:X) (c:X->X) (xw:X->X->bD) (f:X) (T:X->X->bD) (g:X->eE):Prop where
 sub:∀m x,m<F->x<n->xw m x=bt->T m x=bt
 sup:∀m x,m<F->x<n->T m x=bt->c m<=x
 um:∀m,m<f->∃q,ql c F T m n q/\g m=((c m:Z),(c (m+1):Z),h3 T m n,q,())/\∀p:X,q=(p:Z)->∀x,c (m+1)<=x->x<n->T m x=bt->T p x=bt
 new:∀m,f<=m->m<F->g m=l9 c m
section
variable {G:akW} {n F:X} {c:X->X} {xw:X->X->bD} (C:G.length=n) (B:fw G) (D:n<=7) (A:ow G n n F c xw)
include C B D A
theorem ow.zI:F<=n:=by have:=P4 A.m F (bg _);have:=A.e;omega
theorem ow.le (f:b<=a) (e:a<=F):c b<=c a:=by
 rcases cY b a with d|d
 ·exact Nat.le_of_lt (aad A.m b a d e)
 grind
theorem ow.own (g:a<n):∃b,b<F/\c b<=a/\a<c (b+1):=by
 have h:∀d,d<=F->a<c d->∃b,b<d/\c b<=a/\a<c (b+1):=by
  intro d
  induction d with
  |zero=>intro _ f;rw[A.z] at f;omega
  |succ d i=>
   grind
 exact h F (bg _) (by rw[A.e];exact g)
theorem ow.sup (e:a<F) (f:b<n) (d:xw a b=bt):c a<=b:=by obtain⟨j,g,h,i⟩:=(A.t a b e f).1 d;grind [On]
theorem ow.diag (g:a<F) (d:c a<=b) (f:b<c (a+1)):xw a b=bt:=by have h:=A.le C B D (aa:a+1<=F) (bg _);have i:=A.e;obtain⟨k,j,_⟩:=WQ B (aa:b<G.length);exact(A.t a b g aa).2 ⟨b,d,f,ae⟩
theorem adX {T:X->X->bD} (ad:a<F) (G:b<n) (av:c (a+1)<=b) {g:X->eE} {has:bp gQ} (z:∀d,d<F->(g d).1=(c d:Z)/\(g d).2.1=(c (d+1):Z)):ah (loop (σ:=(Z×iu×bp gQ×bw)) (ρ:=kN) (λ(i,f,p,_)=>
 bif bz (i<ar f) then
 bE (α:=kN) (
 bE (α:=(bD×iu×bp gQ×bw)) (
 (bm f.length i).bind λH=>
 (ba f H λw=>Y w.1).bind λO=>
  bif bz ((b:Z)>=O)==bt then(bm f.length i).bind λI=>
 (ba f I λx=>Y x.2.1).bind λQ=>
 Y (bz ((b:Z)<Q),f,p,()) else Y (br,f,p,())) λ(N,o,r,_)=>
  bif N then
 (bm o.length (a:Z)).bind λt=>
 (ba o t λk=>Y (o.set t (k.1,(k.2.1,(k.2.2.1,(i,k.2.2.2.2)))))).bind λR=>
 Y (R,r,()) else
 Y (o,r,())) λ(J,y,_)=>
 Y (.inl (aO i,J,y,())) else
 Y (.inr (f,p,()))) (aO (a:Z),aC F g,has,())) (λL=>∃e:X,a<e/\e<F/\c e<=b/\b<c (e+1)/\L=(aC F (eK g a ((g a).1,(g a).2.1,(g a).2.2.1,(e:Z),())),has,())):=by
 have V:=A.zI C B D;obtain⟨e,K,a0,a3⟩:=A.own C B D G;have am:a<e:=by
  rcases cY a e with h|h
  ·exact h
  have:=A.le C B D (aa:e+1<=a+1) aa;omega
 refine(bP (F-(a+1)) (λm M=>M=(((a+1+m:X):Z),aC F (if e<a+1+m then eK g a ((g a).1,(g a).2.1,(g a).2.2.1,(e:Z),()) else g),has,())) ?_ ?_ ?_)
 ·rw[a9 aa,aA aa]
 ·rintro m _ an rfl;dsimp only;generalize ap:a+1+m=d;have j:d<F:=aa;rw[a7,cU,aS (aI (aa:(d:Z)<(F:Z)))];generalize E:(if e<d then eK g a ((g a).1,(g a).2.1,(g a).2.2.1,(e:Z),()) else g)=q;have s:(q d)=g d:=by
   rw[<-E];grind [gT]
  obtain⟨u,v⟩:=z d j;refine bF (P:=λh=>h=(aC F (if e<d+1 then eK g a ((g a).1,(g a).2.1,(g a).2.2.1,(e:Z),()) else g),has,())) ?_ ?_
  ·refine bF (P:=λh=>h=(bz (d=e),aC F q,has,())) ?_ ?_
   ·refine bC (eV j) ?_;rw[gV j,s,u];refine bC bq ?_;by_cases S:c d<=b
    ·rw[aS ae];refine bC (eV j) ?_;rw[gV j,s,v];refine bC bq (bu.2 ?_);by_cases l:d=e
     ·rw[aI l,aI (ae:(b:Z)<(c (d+1):Z))]
     have:¬b<c (d+1):=λU=>by
      rcases cY d e with h|h
      ·have:=A.le C B D (aa:d+1<=e) aa;omega
      have:=A.le C B D (aa:e+1<=d) aa;omega
     grind
    rw[aP ae,aD (ae:¬d=e)];grind [bu]
   rintro _ rfl;dsimp only;by_cases l:d=e
   ·rw[aS (aI l)];simp_all [bC,bu,gV,ha,aB,eV,cU]
   rw[aP (aD l)];grind [bu]
  grind [a9,bu]
 rintro _ rfl;dsimp only;rw[a7,cU,(aa:a+1+(F-(a+1))=F),aP (aD (aa:¬((F:Z)<(F:Z)))),b9 K];grind [bu]
theorem afo {d:X->X->bD} (q:a<F) (R:nQ G n F c xw a d o):ah (loop (σ:=(Z×iu×bp gQ×bw)) (ρ:=kN) (λ(s,t,v,_)=>
 bif bz (s<ar (aC n (hh G))) then
 bE (α:=kN) (
 (bm v.length (a:Z)).bind λcs=>
 ((ba v cs λd1=>Y d1).bind λd2=>bm d2.length s).bind λf1=>
 (ba v cs λd3=>ba d3 f1 λd4=>Y d4).bind λhi=>
  bif !hi then
 Y (t,v,()) else
 (bm t.length (a:Z)).bind λcv=>
 (ba t cv λd5=>Y d5.2.2.1).bind λgo=>
 (cI (go.length+([s]).length)).bind λ_=>
 (bm t.length (a:Z)).bind λU=>
  bif bL cv U&&bt then
 (ba t U λd6=>Y d6.2.2.1).bind λgs=>
 (ba t U λam=>Y (t.set U (am.1,(am.2.1,((gs++[s]),am.2.2.2))))).bind λE=>
 bE (α:=kN) (
 bE (α:=(bD×iu×bp gQ×bw)) (
 (bm E.length (a:Z)).bind λf2=>
 (ba E f2 λd7=>Y d7.2.1).bind λhr=>
  bif bz (s>=hr)==bt then(bm E.length (a:Z)).bind λf3=>
 (ba E f3 λd8=>Y d8.2.2.2.1).bind λhs=>
 Y (bz (hs<0),E,v,()) else Y (br,E,v,())) λ(gi,c2,a4,_)=>
  bif gi then
 (loop (σ:=(Z×iu×bp gQ×bw)) (ρ:=kN) (λ(H,u,ap,_)=>
  bif bz (H<ar u) then
 bE (α:=kN) (
 bE (α:=(bD×iu×bp gQ×bw)) (
 (bm u.length H).bind λf4=>
 (ba u f4 λd9=>Y d9.1).bind λhv=>
  bif bz (s>=hv)==bt then(bm u.length H).bind λf5=>
 (ba u f5 λek=>Y ek.2.1).bind λhw=>
 Y (bz (s<hw),u,ap,()) else Y (br,u,ap,())) λ(gl,V,bl,_)=>
  bif gl then
 (bm V.length (a:Z)).bind λc1=>
 (ba V c1 λQ=>Y (V.set c1 (Q.1,(Q.2.1,(Q.2.2.1,(H,Q.2.2.2.2)))))).bind λid=>
 Y (id,bl,()) else
 Y (V,bl,())) λ(f8,fn,_)=>
 Y (.inl (aO H,f8,fn,())) else
 Y (.inr (u,ap,()))) (aO (a:Z),c2,a4,())).bind λ(f6,ex,_)=>
 Y (f6,ex,()) else
 Y (c2,a4,())) λ(z,L,_)=>
 (bm z.length (a:Z)).bind λfT=>
 (ba z fT λdg=>Y dg.2.1).bind λgt=>
  bif bz (s>=gt) then
 (bm z.length (a:Z)).bind λf0=>
 (ba z f0 λdl=>Y dl.2.2.2.1).bind λhc=>
 (bm L.length hc).bind λa0=>
 ((ba L a0 λds=>Y ds).bind λd0=>bm d0.length s).bind λco=>
 (ba L a0 λa3=>(ba a3 co λ_=>Y (a3.set co bt)).map λib=>L.set a0 ib).bind λic=>
 Y (z,ic,()) else
 Y (z,L,()) else bv) λ(f7,fl,_)=>
 Y (.inl (aO s,f7,fl,())) else
 Y (.inr (t,v,()))) ((c a:Z),aC F o,aC F (λa=>aC n (d a)),())) (λx=>∃j,ql c F d a n j/\x=(aC F (eK o a ((c a:Z),(c (a+1):Z),h3 d a n,j,())),aC F (λh=>aC n (ln c d a n j h)),())):=by
 have ix:=A.zI C B D;have i2:=A.le C B D (aa:a+1<=F) (bg _);have i1:=A.e;have kd:=A.m a q;have fs:o a=l9 c a:=R.new a (bg _) q;have i3:∀h,h<F->(o h).1=(c h:Z)/\(o h).2.1=(c (h+1):Z):=λh bx=>by
  rcases cY h a with r|r
  ·obtain⟨j,_,K,_⟩:=R.um h r;grind
  rw[R.new h r bx];exact⟨bq,bq⟩
 refine bP (n-c a) (λw gf=>∃j,ql c F d a (c a+w) j/\gf=(((c a+w:X):Z),aC F (eK o a ((c a:Z),(c (a+1):Z),h3 d a (c a+w),j,())),aC F (λh=>aC n (ln c d a (c a+w) j h)),())) ?_ ?_ ?_
 ·have ax:h3 d a (c a)=[]:=by
   unfold h3;rw[an8.2 λk S r=>?_]
   ·rfl
   have J:=hN.1 S;have:=R.sup a k q aa r;omega
  refine⟨-1,.inl ⟨bq,λk S r=>?_⟩,?_⟩
  ·omega
  rw[nu,ax];congr 2
  ·have:eK o a ((c a:Z),(c (a+1):Z),([]:ak7),(-1:Z),())=o:=by
    rw[show((c a:Z),(c (a+1):Z),([]:ak7),(-1:Z),())=o a from fs.symm,agT]
   grind
  simp_all [c4,aD,ln]
 ·rintro w _ jp ⟨j,M,rfl⟩;dsimp only;generalize i8:c a+w=b at*;have av:b<n:=aa;rw[a7,cU,aS (aI (aa:(b:Z)<(n:Z))),(aa:c a+(w+1)=b+1)];have ft:ln c d a b j a b=d a b:=by
   grind [aD,ln]
  refine bF (P:=λx=>∃p,ql c F d a (b+1) p/\x=(aC F (eK o a ((c a:Z),(c (a+1):Z),h3 d a (b+1),p,())),aC F (λh=>aC n (ln c d a (b+1) p h)),())) ?_ ?_
  ·refine bC (eV (by grind [cU])) ?_;rw[gV q];refine bC (y:=b) (by grind [eV,cU]) ?_;rw[gV q,gV av,ft];refine bC bq ?_;cases an:d a b with
   |false=>
    rw[aS af];refine bu.2 ⟨j,?_,?_⟩
    ·rcases M with⟨aE,p⟩|⟨k,l,aE,p⟩
     ·refine .inl ⟨aE,λk S r=>?_⟩;grind
     exact .inr ⟨k,l,aa,p⟩
    rw[Tg,an,aA ab];congr 2;refine c4 λh _=>c4 λk _=>?_;grind [aI,aD,ln]
   |true=>
    rw[aP af];refine bC (eV (by grind [cU])) ?_;rw[gV q,gA];refine bC bq ?_;have lb:=Tf (T:=d) (f:=a) (i:=b);rw[c9 ae,bM];refine bC (eV (by grind [cU])) ?_;rw[aS ag,gV q,gA];refine bC bq ?_;rw[gV q,gA,ha,Uh];refine bC bq ?_;have fz:h3 d a b++[(b:Z)]=h3 d a (b+1):=(by rw[Tg,b9 an]);dsimp only;rw[fz];refine bF (P:=λx=>∃p,x=(aC F (eK o a ((c a:Z),(c (a+1):Z),h3 d a (b+1),p,())),aC F (λh=>aC n (ln c d a b j h)),())/\((b<c (a+1)/\p=j)\/(c (a+1)<=b/\∃l:X,p=(l:Z)/\l<F/\(j=p\/(j=-1/\∀k,k<b->d a k=bt->k<c (a+1)))))/\ql c F d a (b+1) p) ?_ ?_
    ·refine bF (P:=λx=>∃O:bD,x=(O,aC F (eK o a ((c a:Z),(c (a+1):Z),h3 d a (b+1),j,())),aC F (λh=>aC n (ln c d a b j h)),())/\(O=bt↔c (a+1)<=b/\j<0)) ?_ ?_
     ·refine bC (eV (by grind [cU])) ?_;rw[gV q,gA];refine bC bq ?_;dsimp only;by_cases I:c (a+1)<=b
      ·rw[aS ae];grind [bC,bu,gV,gA,eV,cU]
      rw[aP ae];grind [bu]
     rintro _ ⟨O,rfl,fp⟩;dsimp only;cases O with
     |true=>
      obtain⟨ad,ii⟩:=fp.1 bq;rw[bI];have ci:j=-1/\∀k,k<b->d a k=bt->k<c (a+1):=by
       rcases M with r|⟨k,l,J,K,el,em,eq,_⟩
       ·exact r
       omega
      refine bF (adX (T:=d) C B D A q av ad (g:=eK o a ((c a:Z),(c (a+1):Z),h3 d a (b+1),j,())) (has:=aC F (λh=>aC n (ln c d a b j h))) (λh bx=>?_)) ?_
      ·grind [gT,gA]
      rintro _ ⟨l,f9,N,gc,ge,rfl⟩;dsimp only;refine bu.2 ⟨(l:Z),?_,.inr ⟨ad,l,bq,N,.inr ci⟩,.inr ⟨b,l,aa,an,ad,ci.2,bq,f9,N,gc,ge⟩⟩;rw[gA,Uh]
     |false=>
      rw[bR];refine bu.2 ⟨j,bq,?_,?_⟩
      ·rcases cY b (c (a+1)) with I|I
       ·omega
       refine .inr ⟨I,?_⟩;rcases M with r|⟨k,l,J,K,el,em,eq,io,is,_⟩
       ·grind
       grind
      rcases M with⟨J,K⟩|⟨k,l,J,K⟩
      ·refine .inl ⟨J,λk S i0=>?_⟩;grind
      exact .inr ⟨k,l,aa,K⟩
    rintro _ ⟨p,rfl,fr,ce⟩;dsimp only;refine bC (eV (by grind [cU])) ?_;rw[gV q,gA];refine bC bq ?_;dsimp only;rcases fr with⟨I,rfl⟩|⟨I,l,rfl,N,kg⟩
    ·rw[aP (aD (aa:¬(b:Z)>=(c (a+1):Z)))];refine bu.2 ⟨p,ce,?_⟩;congr 2;refine c4 λh _=>c4 λk _=>?_;grind [aD,aI,ln]
    rw[aS (aI (aa:(b:Z)>=(c (a+1):Z)))];refine bC (eV (by grind [cU])) ?_;rw[gV q,gA];refine bC bq ?_;dsimp only;refine bC (eV (by grind [cU])) ?_;rw[gV N];refine bC (y:=b) (by grind [eV,cU]) ?_;rw[gV N,gV av,ha,amP,ha,O5];refine bC bq (bu.2 ⟨(l:Z),ce,?_⟩);congr 2;refine c4 λh _=>c4 λk _=>?_;grind [G5,ln]
  grind [a9,bu]
 rintro _ ⟨j,M,rfl⟩;dsimp only;rw[(aa:c a+(n-c a)=n)] at*;rw[a7,cU,aP (aD (aa:¬((n:Z)<(n:Z))))];grind [bu]
end
end
section
theorem ql.congr {c:X->X} {F:X} {d:X->X->bD} (e:f a=d a) (g:ql c F f a b j):ql c F d a b j:=by simp_all [ql]
theorem Te (d:c a=f a):h3 c a b=h3 f a b:=by grind [h3]
section
variable {G:akW} {n F:X} {c:X->X} {A:X->X->bD} (B:G.length=n) (C:fw G) (D:n<=7) (H:ow G n n F c A)
include B C D H
theorem nQ.next (L:a<F) (i:nQ G n F c A a f o) (l:ql c F f a n j):nQ G n F c A (a+1) (ln c f a n j) (eK o a ((c a:Z),(c (a+1):Z),h3 f a n,j,())):=by
 have h:∀b,b<=a->ln c f a n j b=f b:=λb g=>by
  funext e;unfold ln;have:¬j=(b:Z):=by rcases l with⟨d,_⟩|⟨e,p,_,_,_,_,d,k,_⟩<;>omega
  grind
 have v:∀b e,f b e=bt->ln c f a n j b e=bt:=λb e d=>(by grind [ln]);refine⟨λb e g m d=>v _ _ (i.sub b e g m d),λb e g m d=>?_,λb g=>?_,λb g t=>?_⟩
 ·unfold ln at d;rw[jO] at d;rcases d with d|d
  ·exact i.sup b e g m d
  simp only[cL,alD] at d;obtain⟨⟨⟨q,k⟩,s⟩,K⟩:=d;rcases l with⟨aE,_⟩|⟨M,p,y,z,B,C,D,E,H,I,J⟩
  ·omega
  grind
 ·rcases cY b a with d|d
  ·obtain⟨aE,q,k,s⟩:=i.um b d;refine⟨aE,q.congr (h b aa).symm,?_,λp u e w x r=>?_⟩
   ·rw[gT _ _ aa,k,Te (h b aa)]
   rw[h b aa] at r;grind
  obtain rfl:b=a:=aa;refine⟨j,l.congr (h b aa).symm,?_,λp u e w x r=>?_⟩
  ·rw[gA,Te (h b aa)]
  grind [aI,ln]
 rw[gT _ _ aa];exact i.new b aa t
end
theorem JM {l:dh} {aU:dh} {m:Z} {G:akW} {o:Z} {n:X} (B:G.length=n) (C:fw G) (D:n<=7) (t:r.length<=9223372036854775807) (p:tA (l,())=Y (aU,j,())) (q:tB (aU,())=Y ((h,()),m,())) (s:rS ((h,()),d,())=Y ((G,()),o,())):ah (yf (l,d,r,())) (λk=>∃F c A b a,ow G n n F c A/\nQ G n F c A F b a/\k=(aC F a,())):=by
 unfold yf;refine bC p (bC q (bC s ?_));refine bC (ae4 C aa) ?_;dsimp only;rw[B];refine bF (W7 B C D t) ?_;rintro _ ⟨F,c,A,H,rfl⟩;dsimp only;have z:=H.zI B C D;refine bF (P:=λk=>∃b a,nQ G n F c A F b a/\k=(aC F a,())) ?_ ?_
 ·refine bP F (λe y=>∃b a,nQ G n F c A e b a/\y=((e:Z),aC F a,aC F (λe=>aC n (b e)),())) ⟨A,l9 c,⟨λ_ _ _ _ f=>f,λx I u w f=>H.sup B C D u w f,λx f=>absurd f (zX _),λ_ _ _=>rfl⟩,bq⟩ ?_ ?_
  ·rintro e _ g ⟨b,a,i,rfl⟩;dsimp only;rw[a7,cU F,aS (aI (aa:(e:Z)<(F:Z)))];refine bC (eV g) ?_;rw[gV g,i.new e (cc _) g];refine bC bq ?_;refine bF (afo B C D H g i) ?_;rintro _ ⟨E,v,rfl⟩;dsimp only;rw[a9 aa];exact bu.2 ⟨_,_,i.next B C D H g v,bq⟩
  rintro _ ⟨b,a,i,rfl⟩;dsimp only;rw[a7,cU F,aP (aD (aa:¬((F:Z)<(F:Z))))];grind [bu]
 grind [bu]
theorem X7 {P:X->bD} {a b:X} (i:∀c,c<a->P c=br) (j:∀c,a<=c->c<b->P c=bt) (k:a<=b):∀e,(bK (b+e)).filter P=alb a (b-a)++(((bK (b+e)).filter P).filter λc=>bz (b<=c)):=by
 have h:∀d,a+d<=b->(bK (a+d)).filter P=alb a d:=by
  intro d
  induction d with
  |zero=>
   simp_all
  |succ d f=>
   grind [aoc,alu,List.filter_cons_of_pos,aof]
 intro e
 induction e with
 |zero=>
  have:=h (b-a) aa;simp_all
 |succ e f=>
  rw[<-sM,je,qb,qb,<-jd,<-f];congr 1;cases g:P (b+e)<;>simp[g]
end
section
section
variable {G:akW} {n F:X} {c:X->X} {I T:X->X->bD} {g:X->eE} (C:G.length=n) (D:fw G) (H:n<=7) (A:ow G n n F c I) (B:nQ G n F c I F T g)
include C D H A B
theorem nQ.bk {a:X} (e:a<=F):bk (aC F g) a=c a:=by
 cases a with
 |zero=>exact A.z.symm
 |succ a=>
  obtain⟨f,_,d,_⟩:=B.um a aa;show(Option.map (λb:eE=>b.2.1.toNat) (aC F g)[a]?).getD 0=c (a+1);grind [h0]
theorem KC {k x:X}:(x:Z)∈h3 T k n↔x<n/\T k x=bt:=by unfold h3;grind
theorem Td (a:X):(h3 T a n).Pairwise (· < ·):=by unfold h3;rw[oG];exact(List.pairwise_lt_range.filter _).imp λb=>by omega
theorem nQ.rows {f:X} (g:f<F):∃i:ak6,h3 T f n=(alb (c f) (c (f+1)-c f)++i).map (λd:X=>(d:Z))/\∀d,d∈i↔c (f+1)<=d/\d<n/\T f d=bt:=by
 have q:=A.le C D H (aa:f+1<=F) (bg _);have r:=A.e;have s:=A.m f g;have:=X7 (P:=λd=>bz (d<n)&&T f d) (a:=c f) (b:=c (f+1)) (λd h=>by
  by_cases p:d<n
  ·cases j:T f d with
   |false=>simp
   |true=>have:=B.sup f d g p j;omega
  omega) (λd l o=>by
   show(bz (d<n)&&T f d)=bt;rw[aI (aa:d<n),B.sub f d g aa (A.diag C D H g l o)];rfl) aa (n-c (f+1))
 rw[(aa:c (f+1)+(n-c (f+1))=n)] at this;have k:(bK n).filter (λd=>bz (d<n)&&T f d)=(bK n).filter (T f):=qc λd h=>(by rw[aI (hN.1 h),Bool.true_and]);rw[k] at this;refine⟨((bK n).filter (T f)).filter λd=>bz (c (f+1)<=d),?_,?_⟩
 ·grind [h3]
 grind
theorem nQ.Yi:gU G (aC F g):=by
 have d3:=A.zI C D H;have a0:=A.e;have O:∀a,a<=F->l0.bk (aC F g) a=c a:=λa b=>B.bk C D H A b;have N:mh n (aC F g):=by
  refine⟨λa b=>?_,by rw[cU,O F (bg _),a0]⟩;rw[cU] at b;obtain⟨z,_,j,_⟩:=B.um a b;have s:=A.m a b;have d2:=A.le C D H (aa:a+1<=F) (bg _);refine⟨g a,h0 b,?_,?_,?_⟩
  ·rw[j,O a aa]
  ·grind
  grind
 have ce:∀f,f<F->g6 (aC F g) (f:Z)=h3 T f n:=λf R=>(by obtain⟨z,_,j,_⟩:=B.um f R;grind [us,cU,kz]);have bs:∀{f i:X},f<F->c f<=i->i<c (f+1)->hH (l0.bk (aC F g)) i (aC F g).length=(f:Z):=λ{f i} R d1 j=>(by have s:=cU F g;exact xT (m:=(aC F g).length) (λa b=>⟨b,N.1 a b⟩) aa ae ae _ aa (bg _));unfold gU;rw[C];refine⟨N,λa b=>?_,λa b=>?_,λad d w=>?_⟩
 ·rw[cU] at b;rw[kz];obtain⟨z,_,j,_⟩:=B.um a b;obtain⟨h,S,p⟩:=B.rows C D H A b;have s:=A.m a b;have bl:(h3 T a n).length=(c (a+1)-c a)+h.length:=ae;have u:=Td C D H A B a;have q:((c (a+1):Z)-(c a:Z)).toNat=c (a+1)-c a:=aa;rw[j];unfold j5;dsimp only;rw[q];refine⟨aa,λd _ P l=>⟨λQ=>?_,λv=>?_⟩⟩
  ·simp_all
  dsimp only at v l|-;rw[q] at v;have y:(h3 T a n)[d]=((h[d-(c (a+1)-c a)]'(by omega):X):Z):=by simp_all
  have o:=(p _).1 (cK (aa:d-(c (a+1)-c a)<h.length));refine⟨aa,aa,?_⟩;exact(it.1 u) (d-1) d aa aa aa
 ·rw[cU] at b;rw[kz];obtain⟨z,bx,j,d5⟩:=B.um a b;obtain⟨h,S,p⟩:=B.rows C D H A b;have s:=A.m a b;have bl:(h3 T a n).length=(c (a+1)-c a)+h.length:=ae;have u:=Td C D H A B a;have q:((c (a+1):Z)-(c a:Z)).toNat=c (a+1)-c a:=aa;have y:∀d (l:d<(h3 T a n).length),c (a+1)-c a<=d->∃i,i∈h/\(h3 T a n)[d]=(i:Z):=λd l v=>by
   refine⟨h[d-(c (a+1)-c a)]'(by omega),cK _,?_⟩
   simp_all
  rw[j];unfold jD;dsimp only;rw[q];rcases bx with⟨aE,d8⟩|⟨I,f,K,L,ap,cs,rfl,cv,c1,c2,dg⟩
  ·refine .inl ⟨?_,aE⟩;have:h=[]:=List.eq_nil_iff_forall_not_mem.2 λi d7=>by
    grind
   grind
  have co:=(p I).2 ⟨ap,K,L⟩;have d6:0<h.length:=List.length_pos_of_mem co;refine .inr ⟨aa,?_,λd P l=>?_⟩
  ·obtain⟨J,V,a3⟩:=y (c (a+1)-c a) aa (bg _);obtain⟨dl,ds,d0⟩:=(p J).1 V;have d4:J<=I:=by
    obtain⟨E,ci,U⟩:=hV.1 ((KC (x:=I) C D H A B (k:=a)).2 ⟨K,L⟩);rcases cY E (c (a+1)-c a) with av|av
    ·simp only[S,iK] at U;rw[List.getElem_append_left ae] at U;grind
    rcases cY (c (a+1)-c a) E with M|M
    ·have:=(it.1 u) _ E aa ci M;omega
    grind
   grind [alO,cq]
  obtain⟨J,V,a3⟩:=y d l P;grind [KC]
 intro Q;have a4:ad<n:=(by obtain⟨l,_⟩:=w;omega);have o:d<n:=(by have:=w.lt D;omega);obtain⟨f,r,am,an⟩:=A.own C D H a4;rw[bs r am an,ce f r];refine(KC C D H A B).2 ⟨o,B.sub f d r o ((A.t f d r o).2 ⟨ad,am,an,wl.2 ⟨aa,.inr ⟨Q,?_⟩⟩⟩)⟩;exact .one w
end
end
theorem aeD (b:gK a a r d s) (c:fQ a a r d s≠0):tA (((a:Z),(a:Z),r,d,s,()),())=Y ((0,0,[],[],[],()),fQ a a r d s,()):=by unfold tA;refine aj b.wL ?_;grind
def aeA:tB ((0,0,[],[],[],()),())=Y (([],()),1,()):=by unfold tB;refine aj (y:=((1:Z),())) rfl ?_;rfl
def Hn:fw []:=JI []
theorem aeI (a:ak7):∃c,rS (([],()),a,())=Y (([],()),c,()):=by
 rw[LD (λe d=>by cases d)];by_cases b:nc [] a=0
 ·rw[aB b];refine⟨0,?_⟩;have:a=[]:=by
   unfold nc at b;grind
  subst this;rfl
 simp_all
theorem nQ.small (j:h.length=a) (k:fw h) (n:a<=7) (e:ow h a a b l c) (i:nQ h a b l c b f o):(aC b o).length<=a/\∀g∈aC b o,0<g.2.2.1.length/\g.2.2.1.length<=a:=by have t:=e.zI j k n;refine⟨by grind [cU],λg q=>?_⟩;obtain⟨p,d,rfl⟩:=hV.1 q;rw[cU] at d;rw[kz];obtain⟨v,_,r,_⟩:=i.um p d;obtain⟨w,u,_⟩:=i.rows j k n e d;have s:=e.m p d;grind [Tf]
theorem Yu (z:a<=b) (Q:b<=7) (y:fQ a a r d s=0->kJ a r d s) (u:gK a a r d s) {f L:ak7} (o:L.length<=9223372036854775807):ah (yf (((a:Z),(a:Z),r,d,s,()),f,L,())) (λU=>∃k:iu,U=(k,())/\k.length<=b/\(∀c∈k,0<c.2.2.1.length/\c.2.2.1.length<=b)/\(iI a a r d s f=0->gU (iR a (fE (cZ r d s a)) f) k)):=by
 classical
 have v:a<=7:=dk z Q;by_cases e:fQ a a r d s=0
 ·have t:=(jI.1 e).1;have N:=(jI.1 e).2;have M:=rZ t a (bg _);have O:=rY t;have V:=(y e).el;have P:=pK t u.hw;have R:=pK t (Bs N);have K:=yT M;have J:=yS O;have T:=L0 (rows:=a) (cX:=a) (E:=fE (cZ r d s a)) aa aa aa (λB A=>P B (h4.1 A).1);have S:=Ir K J (λB A=>R B (h4.1 A).1);have x:=Sw T S;rw[Jm K J] at x;by_cases p:e8 f a
  ·refine(JM (sa p) (yE a (fE (cZ r d s a)) f) v o (Lv (y e) u e) x (Sz (dk v ab) p)).mono ?_;rintro _ ⟨C,H,F,D,I,i,j,rfl⟩;obtain⟨l,g⟩:=j.small (sa p) (yE a (fE (cZ r d s a)) f) v i;exact⟨_,bq,dk l z,λc h=>⟨(g c h).1,dk (g c h).2 z⟩,λ_=>j.Yi (sa p) (yE a (fE (cZ r d s a)) f) v i⟩
  have m:∃w,rS ((kB a (kk (fE (cZ r d s a))),()),f,())=Y (([],()),w,()):=by
   rw[LD (λk o=>by have:=JN a (kk (fE (cZ r d s a))) k o;omega)];rw[aA (λq=>?_)]
   ·grind
   grind [Bx,nc]
  obtain⟨w,m⟩:=m;refine(JM (G:=[]) (n:=0) rfl Hn (dj _) o (Lv (y e) u e) x m).mono ?_;rintro _ ⟨C,H,F,D,I,i,j,rfl⟩;obtain⟨l,g⟩:=j.small bq Hn (dj _) i;refine⟨_,bq,dk l (dj _),λc h=>⟨(g c h).1,dk (g c h).2 (dj _)⟩,λq=>absurd (CE q).2.2 p⟩
 obtain⟨w,m⟩:=aeI f;refine(JM (G:=[]) (n:=0) rfl Hn (dj _) o (aeD u e) aeA m).mono ?_;rintro _ ⟨C,H,F,D,I,i,j,rfl⟩;obtain⟨l,g⟩:=j.small bq Hn (dj _) i;exact⟨_,bq,dk l (dj _),λc h=>⟨(g c h).1,dk (g c h).2 (dj _)⟩,λq=>absurd (CE q).1 e⟩
def Yt (e:a<=5) (i:gK a a r d s) {c f:ak7} (h:f.length<=9223372036854775807):ah (yf (((a:Z),(a:Z),r,d,s,()),c,f,())) (λj=>∃b:iu,j=(b,())/\b.length<=5/\(∀g∈b,0<g.2.2.1.length/\g.2.2.1.length<=5)/\(iI a a r d s c=0->gU (iR a (fE (cZ r d s a)) c) b)):=
 Yu e ab (kJ.BX e) i h
section
def rv (a:c3):Prop:=a.1.length<100000/\a.2.1.length<100000/\a.2.2.1.length<100000/\a.2.2.2.1.length<100000/\a.2.2.2.2.1.length<100000/\a.2.2.2.2.2.1.length<100000
theorem afB (a:rv p):EH (p,p,())=Y (bt,()):=by obtain⟨d,e,f,g,h,i⟩:=a;have c:∀l:ak7,l.length<100000->rN (l,l,())=Y (bt,()):=λl b=>(by grind [C2]);have ky:∀l:ak7,l.length<100000->AU (l,l,())=Y (bt,()):=λl b=>(by grind [UZ]);simp_all [aS,aj,EH]
theorem Gl:rv km:=by grind [rv,km]
theorem XZ {n:X} (q:n<=12) (o:ak7) (i:(e.flatMap aN.aQ).Perm (bK n)) (f:∀c∈e,sQ (bK n) c) (del:Z):rv (n3 o e del):=by
 obtain⟨r,s,t⟩:=Cc f;have m:(e.flatMap aN.aQ).length=n:=(by rw[i.length_eq,mr]);have p:∀b∈e.flatMap cb,b.1.length<=100:=λb a=>(by obtain⟨c,h,a⟩:=xm.1 a;obtain⟨j,_,rfl⟩:=e1.1 a;have:=(f c h).nd.length_le_of_subset (f c h).sub;grind);have k:=FC (e5 λg=>(e.flatMap aN.aQ).idxOf g) (cs:=e.flatMap cb) λb a=>(by grind [b6,q4,e5]);have l:=FC (hE λg=>(e.flatMap aN.aQ).idxOf g) (cs:=e.flatMap cb) λb a=>(by grind [b6,q4,hE]);refine⟨?_,?_,?_,?_,?_,?_⟩
 ·show((e.flatMap aN.aQ).map _).length<_;grind
 ·show(e.map _).length<_;grind
 ·show(e.flatMap aN.d).length<_;omega
 ·show(jj _ _).length<_;grind [b6,amf,jj]
 ·show((e.flatMap cb).flatMap _).length<_;omega
 show((e.flatMap cb).flatMap _).length<_;omega
section
variable {n:X} {st B C o:ak7} {l:bp eE}
def X1 (e:∀i j,cN (g i j)) (c:gU h l) (a:h.length=n) (f:n<=12):rv (kf g o l).1:=by
 unfold kf;cases d:hO g l l.length with
 |none=>exact Gl
 |some k=>
  obtain⟨m,q⟩:=k;obtain⟨p,b⟩:=qH e c a (bg _) d;exact XZ f o (b.all c a) b.de _
theorem Pm (j:e8 o n) (q:n<=7) (a:gU (iR n (fE (cZ st B C n)) o) l):l.length<=7/\(∀d∈l,d.2.2.1.length<=7)/\tK (iR n (fE (cZ st B C n)) o) l=0:=by
 have f:=sa (E:=fE (cZ st B C n)) j;have h:=yE n (fE (cZ st B C n)) o;have p:=FG a;refine⟨aa,λd k=>?_,?_⟩
 ·obtain⟨r,c,rfl⟩:=hV.1 k;have b:=amU a f c;have e:=b.g;rw[bh c] at e;have m:=b.C9;grind [al6,g6,h2]
 have i:iO (iR n (fE (cZ st B C n)) o)=0:=qx.2 ⟨aa,h⟩;unfold tK;rw[aA (cw i),aB a]
def MK (e:kJ n st B C) (t:gK n n st B C) (b:fQ n n st B C=0) (a:e8 o n) (d:gU (iR n (fE (cZ st B C n)) o) l):m1 (((n:Z),(n:Z),st,B,C,()),o,l,())=Y (kf (hF (cZ st B C n) o) o l):=by have f:=e.uc;obtain⟨z,m,p⟩:=HF e t b a;obtain⟨A,v,w⟩:=Pm a f d;have j:=JT (E:=fE (cZ st B C n)) (dk f ab) a;have c:=ML j (l:=l) aa (λx u=>by have:=v x u;omega);rw[w] at c;have q:=(jI.1 b).1;have i:=(jI.1 b).2;exact adS d (sa a) (λg h=>fF _) (λy k g h=>(ali k (Ul (pK q (Bs i)) _ _)).mono ab ab ab) aa a.1 p (λg h r s=>Th m r s) c
theorem UY (f:kJ n st B C) (c:gK n n st B C) (g:fQ n n st B C=0) (a:e8 o n) (e:gU (iR n (fE (cZ st B C n)) o) l):nF (((n:Z),(n:Z),st,B,C,()),o,l,())=Y (kf (hF (cZ st B C n) o) o l):=by
 classical
 have i:=f.uc;obtain⟨A,h,w⟩:=Pm a i e;have m:=JT (E:=fE (cZ st B C n)) (cu i ab) a;have d:=MM m (l:=l) aa (λk t=>by have:=h k t;omega);rw[w] at d;have r:=a.1;refine aez e (sa a) (λu v=>fF _) aa r (λu v p q=>Ss c g a p q) ?_;unfold vK;refine aj (Cd c aa) ?_;have s:(if fQ n n st B C≠0 then fQ n n st B C else if n≠n then 5 else if e8 o n then 0 else 90)=0:=ae;rw[s];dsimp only;rw[aP af];refine aj (Sx f c g a) (aj d ?_);dsimp only;rw[aP af];refine bQ.1 ?_;refine bF (P:=λx=>x=.inl ()) ?_ ?_
 ·refine bP l.length (λb z=>z=((b:Z),())) rfl ?_ ?_
  ·rintro b _ j rfl;dsimp only;rw[a7,aS (aI (aa:(b:Z)<(l.length:Z))),a9 aa];refine bC (y:=l[b]) (eP j) ?_;have:=h l[b] (b1 j);rw[aP (aD (ae:¬ar (l[b]).2.2.1>64))];grind [bu]
  rintro _ rfl;dsimp only;rw[a7,aP (aD (aa:¬((l.length:Z)<(l.length:Z))))];grind [bu]
 grind [bu]
def UX (b:kJ n st B C) (e:gK n n st B C) (d:fQ n n st B C=0) (c:e8 o n) (a:gU (iR n (fE (cZ st B C n)) o) l):m1 (((n:Z),(n:Z),st,B,C,()),o,l,())=Y (kf (hF (cZ st B C n) o) o l)/\nF (((n:Z),(n:Z),st,B,C,()),o,l,())=Y (kf (hF (cZ st B C n) o) o l)/\rv (kf (hF (cZ st B C n) o) o l).1:=
 ⟨MK b e d c a,UY b e d c a,X1 (λf g=>fF _) a (sa c) (dk b.uc ab)⟩
def MJ (d:n<=5) (c:gK n n st B C) (a:fQ n n st B C=0) (e:e8 o n) (b:gU (iR n (fE (cZ st B C n)) o) l):m1 (((n:Z),(n:Z),st,B,C,()),o,l,())=Y (kf (hF (cZ st B C n) o) o l)/\nF (((n:Z),(n:Z),st,B,C,()),o,l,())=Y (kf (hF (cZ st B C n) o) o l)/\rv (kf (hF (cZ st B C n) o) o l).1:=
 UX (kJ.BX d a) c a e b
def UW (e:gK b a st B C) (f:o.length<=1000000) (c:iI b a st B C o≠0) (l:iu):m1 (((b:Z),(a:Z),st,B,C,()),o,l,())=Y (km,iI b a st B C o,()):=by have d:(iI b a st B C o !=0)=bt:=(by rw[fJ,aD c];rfl);unfold m1;refine aj (MZ e f c) ?_;dsimp only;rw[aS d];rfl
def MI (d:gK b a st B C) (e:o.length<=1000000) (c:iI b a st B C o≠0) (l:iu):m1 (((b:Z),(a:Z),st,B,C,()),o,l,())=Y (km,iI b a st B C o,())/\nF (((b:Z),(a:Z),st,B,C,()),o,l,())=Y (km,iI b a st B C o,()):=by refine⟨UW d e c l,?_⟩;have f:(iI b a st B C o !=0)=bt:=(by rw[fJ,aD c];rfl);unfold nF;refine aj (aeB d e c l) ?_;dsimp only;rw[aS f];rfl
end
end
structure u2 (q:aN):Prop where
 Fj:∀d∈q.d,cH d≠2047
 mC:q.aQ.length=2->jT q.d≠Y 0
 DC:∀d∈q.d,eH d
 PZ:∀a∈q.l,∀i,eH (a i)
theorem zb (f:aZ):∀h:ak6,(∀c∈(f.de h).d,eH c)/\∀b∈(f.de h).l,∀g,eH (b g)
 |[]=>⟨λc a=>absurd a (by show c∉([]:ak7);simp),λb e=>absurd e (by show b∉([]:bp (X->Z));simp)⟩
 |[p]=>⟨λc a=>by rw[fH.1 (show c∈[_] from a)];exact wS _ _,λb e g=>by
  rw[ak9.1 (show b∈[_] from e)];dsimp only;split
  ·exact⟨ab,ab⟩
  exact wJ _⟩
 |[p,r]=>⟨λc a=>by
  have a:c∈[f.bn p p,f.bn r p,f.bn r r]:=a;simp only[gn,anr,or_false] at a;rcases a with rfl|rfl|rfl<;>exact wS _ _,λb e g=>by
  have e:b∈[_,_]:=e;simp only[gn,anr,or_false] at e;grind [wJ]⟩
 |_::_::_::_=>⟨λc a=>absurd a (by show c∉([]:ak7);simp),λb e=>absurd e (by show b∉([]:bp (X->Z));simp)⟩
theorem Py {v:X->Z} {p:X} {R:ak6}:∀{l:ak6} {a:Z×ak2},(∀b,a.2=Y b->b∈R/\v b=a.1)->(∀b∈l,b∈R)->∀b,(fa v p l a).2=Y b->b∈R/\v b=(fa v p l a).1
 |[],_,d,_,b,c=>d b c
 |j::l,a,d,f,b,c=>by rw[fa] at c|-;refine Py ?_ (λg e=>f g (ht _ e)) b c;grind
theorem Xe {a b c:Z} (g:(j.natAbs:Z)≠0) (f:¬41*((j.natAbs:Z)*j.natAbs)<=64*((a.natAbs:Z)*c)) (h:¬41*c<=64*(b.natAbs:Z)):a*b≠j*j:=by intro e;have d:(a.natAbs:Z)*b.natAbs=(j.natAbs:Z)*j.natAbs:=(by have:=b4 Int.natAbs e;rw[uO,uO] at this;omega);rw[<-d] at f;have i:(a.natAbs:Z)*(64*(b.natAbs:Z))<=(a.natAbs:Z)*(41*c):=j2 aa aa;grind
theorem H8 {c:aZ} (e:cH (c.bn a b)≠2047):∃d,a6 (c.bn a b)=Y d/\c.av a b=(d.natAbs:Z):=⟨_,uh e,by grind [uh,anu]⟩
theorem Xd {c d g e h:Z} (r:cH c≠2047) (l:cH j≠2047) (s:cH d≠2047) (o:a6 c=Y g) (p:a6 j=Y e) (q:a6 d=Y h) (b:jT [c,j,d]=Y 0):g*h=e*e:=by obtain⟨f,a⟩:∃f:X,f=65536:=⟨_,bq⟩;obtain⟨u,z,B,w,ax,i,m,y⟩:=aoi a (ali a r) (ali a s) ab ab ab;obtain⟨v,A,C,x,k,f2,n,f4⟩:=aoi a (ali a l) (ali a l) ab ab ab;have t:=(ant a ab u v.neg ab).2;rw[o] at ax;rw[q] at i;rw[p] at k f2;cases ax;cases i;cases k;cases f2;have b:cQ (cM (a6 c) (a6 d)) (dd (cM (a6 j) (a6 j)))=Y 0:=b;rw[t,m,n] at b;have b:w+-x=0:=gy b;grind
theorem N5 {b:aZ}:∀{n k:ak6},(∀p∈n,p∈b.rows)->b.gR n=Y k->u2 (b.de k)
 |[],k,_,c=>by rw[amT] at c;cases c;exact⟨λi e=>absurd e (by show i∉([]:ak7);simp),λc=>absurd c (by show¬(0=2);decide),(zb b _).1,(zb b _).2⟩
 |p::n,k,u,c=>by
  rw[amT] at c;split at c
  ·cases c
  rename_i f;have f:=aoS.1 f;have q:=u p ac;have I:∀g,g∈b.rows->b.fin g->u2 (b.de [g]):=λg r C=>⟨λi e=>by
   rw[fH.1 (show i∈[_] from e)];exact C g r,λc=>absurd c (by show¬(1=2);decide),(zb b _).1,(zb b _).2⟩
  split at c
  ·grind
  rename_i o;split at c
  ·grind
  rename_i d E;obtain⟨h,s⟩:=Py (R:=b.rows) (l:=b.rows) (a:=(0,bv)) (v:=λw=>b.av w p) (p:=p) ac (λw D=>D) d E;split at c
  ·exact N5 (λg r=>u g (ht _ r)) c
  split at c
  ·cases c
  rename_i j;have j:=aoS.1 j;split at c
  ·grind
  rename_i m;split at c
  ·grind
  rename_i t;cases c;refine⟨λi e=>?_,λ_ e=>?_,(zb b _).1,(zb b _).2⟩
  ·have e:i∈[b.bn p p,b.bn d p,b.bn d d]:=e;simp only[gn,anr,or_false] at e;rcases e with rfl|rfl|rfl
   ·exact f p q
   ·exact f d h
   exact j d h
  obtain⟨F,x,y⟩:=H8 (f p q);obtain⟨G,HY,bj⟩:=H8 (f d h);obtain⟨H,z,A⟩:=H8 (j d h);have s:b.av d p=(b.fj p).1:=s;rw[<-s] at o m;rw[bj] at o m;rw[y] at m;rw[A] at t;exact Xe (λB=>o (.inl B)) m t (Xd (f p q) (f d h) (j d h) x HY z e)
theorem Ta:∀{n:X} {d f:aZ} {e:bp aN},alf n d=Y (f,e)->∀c∈e,u2 c
 |0,d,f,e,a,c,b=>by grind [alf]
 |n+1,d,f,e,a,c,b=>by
  match hc:d.choose with
  |none=>grind [Cu]
  |some []=>
   grind [zk]
  |some (i::h)=>
   rw[uv hc ac] at a;split at a
   case isFalse=>cases a
   cases g:alf n (d.elim (i::h)) with
   |none=>grind
   |some j=>
    rw[g] at a;cases a;rcases gn.1 b with rfl|b
    ·exact N5 (λc b=>uT b) hc
    exact Ta g c b
def p4:ak6->bp aN->Prop
 |_,[]=>True
 |D,a::c=>(∀b∈a.rows,b∉D/\b∉a.aQ)/\p4 (D++a.aQ) c
theorem p4.app:∀{D:ak6} {b a:bp aN},p4 D b->p4 (D++b.flatMap aN.aQ) a->p4 D (b++a)
 |D,[],a,_,c=>by grind
 |D,e::b,a,c,d=>⟨c.1,c.2.app (by rwa[jd])⟩
theorem S9:∀{n:X} {b i:aZ} {f:bp aN} {d:ak6},k1 b->(∀c∈b.rows,c∉d)->alf n b=Y (i,f)->p4 d f
 |0,b,i,f,d,_,_,a=>by rw[alf] at a;cases a;trivial
 |n+1,b,i,f,d,m,p,a=>by
  match hc:b.choose with
  |none=>grind [Cu]
  |some []=>
   rw[zk hc] at a;cases a;trivial
  |some (h::g)=>
   rw[uv hc ac] at a;split at a
   case isFalse=>cases a
   cases e:alf n (b.elim (h::g)) with
   |none=>grind
   |some q=>
    rw[e] at a;cases a;have j:∀c∈b.rows.filter (λo=>bz (o∉h::g)),c∉d/\c∉h::g:=λc e=>ae;refine⟨j,S9 (m.elim (Ak hc)) (λc e=>?_) e⟩;obtain⟨k,l⟩:=j c e;exactλa=>(hM.1 a).elim k l
theorem Jx {d:X->X->ak1} (h:∀C D,cN (d C D)) {p:akW} {b:bp eE} {H:X} (k:gU p b) (j:p.length=H):∀{t:X},t<=b.length->∀{g:bp aZ} {e:bp aN},hO d b t=Y (g,e)->(∀c∈e,u2 c)/\p4 [] e
 |0,_,g,e,a=>by rw[hO] at a;cases a;exact⟨λc n=>(by cases n),trivial⟩
 |t+1,K,g,e,a=>by
  rw[hO] at a;cases m:hO d b t with
  |none=>grind
  |some I=>
   obtain⟨q,L⟩:=I;obtain⟨i1,s⟩:=qH h k j aa m;obtain⟨F,G⟩:=Jx h k j aa m;have i:=amU k j (aa:t<b.length);rw[m] at a;dsimp only[bM] at a;have z:=s.ve h i;have A:=s.Ad i;have B:=xH d (λf=>q.getD f hx) t (l:=b);generalize h6 d b (λf=>q.getD f hx) t=w at*;cases o:alf (w.full+1) w with
   |none=>grind
   |some c=>
    rw[o] at a;cases a;refine⟨λc n=>(hM.1 n).elim (F c) (Ta o c),G.app (S9 z (λM v u=>?_) o)⟩;rw[iD] at u;rw[B.1,hM] at v;have J:=hN.1 (A.mem_iff.1 (oF _ (oF _ u)));rcases v with r|r
    ·grind [List.nodup_append,aog,aoG]
    obtain⟨E,x,y,f⟩:=yV.1 r;have:=i.GR E x y;omega
section
def cV (ps:bp aN) (a:X):X:=((ps.take a).flatMap aN.aQ).length
def g3 (ps:bp aN) (a:X):X:=((ps.take a).flatMap aN.d).length
structure hB (n:X) (ps:bp aN):Prop where
 perm:(ps.flatMap aN.aQ).Perm (bK n)
 de:∀q∈ps,sQ (bK n) q
 k:∀q∈ps,u2 q
 FF:p4 [] ps
theorem mL {b:bp k} (c:a<b.length):b.take (a+1)=b.take a++[b[a]]:=by simp_all
theorem JA {e:Type} (c:k->bp e) {b:bp k} (d:a<b.length):((b.flatMap c).take ((b.take (a+1)).flatMap c).length).drop ((b.take a).flatMap c).length=c b[a]:=by
 have f:b.flatMap c=((b.take a).flatMap c++c b[a])++(b.drop (a+1)).flatMap c:=by
  conv=>lhs;rw[<-jF (a+1) b,mn,mL d,mn]
  simp
 grind [List.take_left,List.drop_left,mL]
theorem vY {e:Type} (b:k->bp e) {c:bp k} {j:X} (d:a<c.length) (g:j<(b c[a]).length):(c.flatMap b)[((c.take a).flatMap b).length+j]?=Y (b c[a])[j]:=by have f:=JA b d;grind
theorem p4.at {c:ak6} {ps:bp aN} (d:p4 c ps):∀{b:X} (f:b<ps.length),∀a∈ps[b].rows,a∉c++(ps.take b).flatMap aN.aQ/\a∉ps[b].aQ:=by
 induction ps generalizing c with
 |nil=>grind
 |cons h ps g=>
  intro b f a e;cases b with
  |zero=>simpa using d.1 a e
  |succ b=>
   have:=g d.2 (b:=b) ae a e;grind
section
variable {n:X} {ps:bp aN}
theorem sd (b:a<ps.length):cV ps (a+1)=cV ps a+ps[a].aQ.length:=by grind [mL,alr,cV]
theorem IA (b:a<ps.length):g3 ps (a+1)=g3 ps a+ps[a].d.length:=by grind [mL,alr,g3]
theorem FX:cV ps ps.length=(ps.flatMap aN.aQ).length:=by grind [cm,cV]
theorem Iz:g3 ps ps.length=(ps.flatMap aN.d).length:=by grind [cm,g3]
theorem hB.len (a:hB n ps):(ps.flatMap aN.aQ).length=n:=by rw[a.perm.length_eq,mr]
def hB.gd (b:hB n ps) (c:a<ps.length):(ps[a].aQ.length=1\/ps[a].aQ.length=2)/\ps[a].d.length=2*ps[a].aQ.length-1/\ps[a].l.length=ps[a].aQ.length:=
 have:=b.de _ (cK c)
 ⟨this.at1,this.dl,this.len⟩
theorem hB.Kd (a:hB n ps):∀{b:X},b<=ps.length->cV ps b<=n/\b<=cV ps b/\g3 ps b+b=2*cV ps b:=by
 intro b e;refine⟨?_,?_⟩
 ·have c:=b4 cE (b4 (aoe aN.aQ) (jF b ps));rw[mn,hq,a.len] at c;grind [cV]
 induction b with
 |zero=>exact⟨bg _,bq⟩
 |succ b d=>
  obtain⟨i1,f⟩:=d aa;obtain⟨g,h,_⟩:=a.gd (aa:b<ps.length);grind [sd,IA]
def hB.wa (b:hB n ps) (c:a<ps.length):cV ps a+ps[a].aQ.length<=n:=by rw[<-sd c];exact(b.Kd aa).1
def hB.N9 (b:hB n ps):∀{a:X},a<=ps.length->((ps.take a).flatMap cb).length=cV ps a:=by
 intro a d
 induction a with
 |zero=>rfl
 |succ a c=>
  rw[mL aa,mn,hq,c aa,sd aa,<-(b.gd (aa:a<ps.length)).2.2];simp[cb]
def hB.call (a:hB n ps):(ps.flatMap cb).length=n:=by have:=a.N9 (bg ps.length);rw[gC,FX,a.len] at this;omega
theorem hB.xV (c:hB n ps) (d:a<ps.length) (g:b<ps[a].aQ.length):∃e∈ps[a].l,(ps.flatMap cb)[cV ps a+b]?=Y (ps[a].rows,e):=by have h:=(c.gd d).2.2;have f:=vY cb d (j:=b) (by grind [b6,cb]);rw[c.N9 aa] at f;grind [b1,cb]
theorem hB.after (c:hB n ps) (d:a<ps.length) (e:b∈ps[a].rows):cV ps a+ps[a].aQ.length<=(ps.flatMap aN.aQ).idxOf b/\(ps.flatMap aN.aQ).idxOf b<n:=by have g:=(c.de _ (cK d)).sub b e;have i:=c.perm.mem_iff.2 g;obtain⟨f,f2⟩:=c.FF.at d b e;rw[iD] at f;refine⟨?_,by rw[<-c.len];grind⟩;rw[<-sd d];have h:ps.flatMap aN.aQ=(ps.take (a+1)).flatMap aN.aQ++(ps.drop (a+1)).flatMap aN.aQ:=(by rw[<-mn,jF]);have j:b∉(ps.take (a+1)).flatMap aN.aQ:=(by grind [mL]);simp_all [List.idxOf_append,aA,cV]
theorem hB.inj (c:hB n ps) (e:a<n) (f:b<n) (h:(ps.flatMap aN.aQ).idxOf a=(ps.flatMap aN.aQ).idxOf b):a=b:=by have d:=c.perm.mem_iff.2 (hN.2 e);have g:=c.perm.mem_iff.2 (hN.2 f);have ax:=aoh (C4.2 d);grind
theorem hB.iG (d:hB n ps) (i:a<ps.length) (c:X->Z):(e5 (λg=>(ps.flatMap aN.aQ).idxOf g) (ps[a].rows,c)).Pairwise (λb h=>b<h)/\∀b∈e5 (λg=>(ps.flatMap aN.aQ).idxOf g) (ps[a].rows,c),((cV ps a+ps[a].aQ.length:X):Z)<=b/\b<(n:Z):=by
 have e:=d.de _ (cK i);constructor
 ·unfold e5;rw[oG];refine aqS (R:=λc a=>(ps.flatMap aN.aQ).idxOf c<(ps.flatMap aN.aQ).idxOf a) (λ{c a} d=>Int.ofNat_lt.2 d) (L2 amZ (λc k=>by cases k) ?_);refine sH ?_ e.nd;intro b h f o m j;exact m (d.inj (hN.1 (e.sub b f)) (hN.1 (e.sub h o)) j)
 intro b f;obtain⟨r,l,rfl⟩:=e1.1 f;obtain⟨p,q⟩:=d.after i ((CF _ _).mem_iff.1 l);grind
end
theorem Wy (c:iB->ak7) {b:bp iB} (d:a<=b.length):(jj c b).getD a 0=(((b.take a).flatMap c).length:Z):=by grind [List.getElem?_range,jj]
theorem NT (b:iB->ak7) (a:bp iB):(jj b a).length=a.length+1:=by grind [jj]
theorem Ik (c:iB->ak7) {b:bp iB} (d:a<b.length):((b.take (a+1)).flatMap c).length=((b.take a).flatMap c).length+(c b[a]).length:=by grind [mL,alr]
theorem NS (a:iB->ak7) {cs:bp iB} (b:X):((cs.take b).flatMap a).length<=(cs.flatMap a).length:=by have c:=b4 cE (b4 (aoe a) (jF b cs));grind
theorem aeH {st:ak7} {n m:X} (o:n<=1000000) (e:st.length=n+1) (f:st.getD 0 0=0) (g:st.getD n 0=(m:Z)) (h:∀b,b<n->st.getD b 0<=st.getD (b+1) 0):E8 (st,(n:Z),(m:Z),())=Y (bt,()):=by
 unfold E8;refine bQ.1 ?_;dsimp only;have d:aq st 0=Y 0:=(gw (l:=st) (i:=0) aa).trans (by rw[f]);refine bF (P:=λc=>c=.inl ()) ?_ ?_
 ·rw[a7,a9 aa,e,aS ac,d,aF,aS af,gw aa,g,aF,aP ac];grind [bu]
 rintro _ rfl;dsimp only;refine bF (P:=λc=>c=.inl ()) ?_ (by grind [bu]);refine bP n (λa k=>k=((a:Z),())) rfl ?_ ?_
 ·rintro a _ j rfl;have:=h a j;dsimp only;rw[aS (aI (aa:(a:Z)<(n:Z))),a9 aa,gw aa,bM,gw aa,bM,aP (aD aa)];grind [bu]
 rintro _ rfl;dsimp only;rw[aP (aD (aa:¬((n:Z)<(n:Z))))];grind [bu]
end
section
def e8.of {o:ak7} {n:X} (a:d.Perm o) (b:e8 o n):e8 d n:=
 ⟨a.length_eq.trans b.1,λe c=>b.2.1 e (a.mem_iff.1 c),a.nodup_iff.2 b.2.2⟩
section
variable {n:X} {ps:bp aN} {o:ak7}
def hB.order (d:hB n ps) (b:e8 o n):e8 ((ps.flatMap aN.aQ).map λa=>o.getD a 0) n:=by refine b.of ((d.perm.map _).trans ?_);have c:(bK n).map (λa=>o.getD a 0)=o:=xi (by rw[di,mr,b.1]) λg f e=>(by rw[oE,List.getElem_range,jL e]);rw[c]
structure hU (n:X) (ps:bp aN) (F:c3):Prop where
 ok:hB n ps
 or:e8 F.1 n
 q6:F.2.1.length=ps.length
 gd:∀b (PC:b<ps.length),aq F.2.1 (b:Z)=Y (ps[b].aQ.length:Z)
 rV:F.2.2.1=ps.flatMap aN.d
 zq:F.2.2.2.1.length=n+1
 st:∀j,j<=n->aq F.2.2.2.1 (j:Z)=Y ((((ps.flatMap cb).take j).flatMap (e5 λp=>(ps.flatMap aN.aQ).idxOf p)).length:Z)
 iG:F.2.2.2.2.1=(ps.flatMap cb).flatMap (e5 λp=>(ps.flatMap aN.aQ).idxOf p)
 nO:F.2.2.2.2.2.1=(ps.flatMap cb).flatMap (hE λp=>(ps.flatMap aN.aQ).idxOf p)
 del:0<=F.2.2.2.2.2.2.1
 o5:n<=12
def hB.O8 (a:hB n ps) (e:n<=12) (f:e8 o n) (del:X):hU n ps (n3 o ps (del:Z)):=by
 refine⟨a,a.order f,?_,λb c=>?_,bq,?_,λg d=>?_,bq,bq,Int.ofNat_nonneg _,e⟩
 ·show(ps.map _).length=_;rw[di]
 ·show aq (ps.map λh=>(h.aQ.length:Z)) (b:Z)=_;rw[eP (by rw[di];exact c),oE]
 ·show(jj _ _).length=_;rw[NT,a.call]
 show aq (jj _ _) (g:Z)=_;rw[gw (by rw[NT,a.call];omega),Wy _ (by rw[a.call];exact d)]
variable {F:c3}
def hU.small (b:hU n ps F):F.1.length=n/\F.2.2.2.2.1.length<=144/\F.2.2.2.2.2.1.length=F.2.2.2.2.1.length/\ps.length<=n/\F.2.2.1.length<=2*n:=by
 have f:=b.ok.call;have p:∀a∈ps.flatMap cb,a.1.length<=12:=λa f=>(by obtain⟨k,m,f⟩:=xm.1 f;obtain⟨t,_,rfl⟩:=e1.1 f;have:=(b.ok.de k m).nd.length_le_of_subset (b.ok.de k m).sub;rw[mr] at this;have:=b.o5;show k.rows.length<=12;omega);have q:∀{cs:bp iB} {d:Type} (c:iB->bp d),(∀a∈cs,(c a).length=a.1.length)->(∀a∈cs,a.1.length<=12)->(cs.flatMap c).length<=12*cs.length:=by
  intro cs d c e l
  induction cs with
  |nil=>exact bg _
  |cons a cs i=>
   have:=i (λg h=>e g (ht _ h)) (λg h=>l g (ht _ h));have:=e a ac;have:=l a ac;rw[uS,hq,ju];omega
 have r:∀{cs:bp iB} {d o:Type} (c:iB->bp d) (j:iB->bp o),(∀a,(c a).length=(j a).length)->(cs.flatMap c).length=(cs.flatMap j).length:=by
  intro cs d o c j e
  induction cs with
  |nil=>rfl
  |cons a cs i=>rw[uS,uS,hq,hq,e,i]
 have v:=q (cs:=ps.flatMap cb) (e5 λs=>(ps.flatMap aN.aQ).idxOf s) (λa _=>by unfold e5;rw[di,q4]) p;have w:=b.ok.Kd (bg ps.length);have u:=b.o5;refine⟨b.or.1,by rw[b.iG];omega,?_,aa,?_⟩
 ·rw[b.nO,b.iG];exact r _ _ λa=>by unfold e5 hE;rw[di,di]
 rw[b.rV,<-Iz];omega
structure UF (F:c3) (k n lo:X) (L:ak7):Prop where
 len:lo+L.length<=F.2.2.2.2.1.length
 get:∀t (pP:t<L.length),aq F.2.2.2.2.1 ((lo+t:X):Z)=Y L[t]
 afT:(F.2.2.2.2.1.take (lo+L.length)).drop lo=L
 asc:∀t (pP:t+1<L.length),L[t]<L[t+1]
 rng:∀t (pP:t<L.length),(k:Z)<=L[t]/\L[t]<(n:Z)
def hU.xV (c:hU n ps F) {b f:X} (g:b<ps.length) (r:f<ps[b].aQ.length):∃l m,UF F (cV ps b+ps[b].aQ.length) n l m/\aq F.2.2.2.1 ((cV ps b+f:X):Z)=Y (l:Z)/\aq F.2.2.2.1 ((cV ps b+f+1:X):Z)=Y ((l+m.length:X):Z):=by obtain⟨o,_,h⟩:=c.ok.xV g r;obtain⟨i,h⟩:=ih.1 h;have u:=c.ok.wa g;have q:=JA (e5 λa=>(ps.flatMap aN.aQ).idxOf a) i;have k:=Ik (e5 λa=>(ps.flatMap aN.aQ).idxOf a) i;have v:=NS (e5 λa=>(ps.flatMap aN.aQ).idxOf a) (cs:=ps.flatMap cb) (cV ps b+f+1);obtain⟨s,t⟩:=c.ok.iG g o;have p:=λe d=>vY (e5 λa=>(ps.flatMap aN.aQ).idxOf a) i (j:=e) d;rw[h] at q k p;refine⟨_,e5 (λa=>(ps.flatMap aN.aQ).idxOf a) (ps[b].rows,o),⟨by rw[c.iG];omega,λe d=>?_,by rw[c.iG,<-k];exact q,λe d=>it.1 s _ _ aa d aa,λe d=>t _ (cK _)⟩,c.st _ aa,by rw[c.st _ aa,k]⟩;rw[c.iG];exact fR (p e d)
def afw (a:hU n ps F):Fe (F,())=Y (bt,()):=by
 obtain⟨l,N,O,Q,R⟩:=a.small;have H:=a.o5;unfold Fe;refine bQ.1 ?_;dsimp only;refine bF (P:=λq=>q=.inl ()) ?_ ?_
 ·have E:=aeH (st:=F.2.2.2.1) (n:=n) (m:=F.2.2.2.2.1.length) aa a.zq (by
   have:=a.st 0 aa;rw[gw (by rw[a.zq];omega)] at this;exact gy this) (by
   have:=a.st n aa;rw[gw (by rw[a.zq];omega)] at this;rw[gy this,a.iG,<-a.ok.call,gC]) (λt C=>by
   have ax:=a.st t aa;have j:=a.st (t+1) aa;rw[gw (by rw[a.zq];omega)] at ax j;rw[gy ax,gy j,Ik _ (by rw[a.ok.call];exact C)];omega)
  have:=a.del;rw[aS (by rw[aD aa];rfl),a7,l,a7];refine bC E ?_;dsimp only;rw[aP af];exact bu.2 bq
 rintro _ rfl;dsimp only;refine bF (P:=λq=>q=.inl ((n:Z),(F.2.2.1.length:Z),())) ?_ ?_
 ·refine bP ps.length (λb h=>h=((cV ps b:Z),(g3 ps b:Z),(b:Z),())) rfl ?_ ?_
  ·rintro b _ f rfl;obtain⟨S,T,_⟩:=a.ok.gd f;have J:=a.ok.wa f;have K:=a.ok.Kd (b:=b) aa;have r:=a.gd b f;have D:(ps[b].aQ.length:Z)=1\/(ps[b].aQ.length:Z)=2:=aa;dsimp only;rw[a7,a.q6,aS (aI (aa:(b:Z)<(ps.length:Z))),a9 aa];refine bC (y:=.inl (((cV ps (b+1):X):Z),((g3 ps (b+1):X):Z),())) ?_ (bu.2 bq);refine aj (y:=.inl ()) ?_ ?_
   ·have k:(bif bz (az ((cV ps b:Z)+(ps[b].aQ.length:Z))>ar F.1) then(Y (.inr (.inr (.inr (.inr (br,()))))):bA (bw⊕(nw⊕xB))) else Y (.inl ()))=Y (.inl ()):=by
     rw[a7,l,cF aa aa,aP (aD aa)]
    rw[r];simp only[aF];rcases D with o|o
    ·rw[o] at k|-;rw[aP af];exact k
    rw[o] at k|-;rw[aS af,aS af];exact k
   dsimp only;rw[r];simp only[bM];have u:az (az ((cV ps b:Z)+(ps[b].aQ.length:Z))-1)=((cV ps b+ps[b].aQ.length-1:X):Z):=(by rw[cF (x:=(cV ps b:Z)+(ps[b].aQ.length:Z)) aa aa,cF aa aa];omega);rw[u];refine aj (y:=.inl ()) ?_ ?_
   ·refine bQ.1 ?_;refine bP ps[b].aQ.length (λp h=>h=(((cV ps b+p:X):Z),())) rfl ?_ ?_
    ·rintro p _ B rfl;obtain⟨e,i,g,v,w⟩:=a.xV f B;have I:=g.len;dsimp only;rw[aS (aI (aa:((cV ps b+p:X):Z)<=((cV ps b+ps[b].aQ.length-1:X):Z))),a9 aa,v,w];simp only[bM];refine bC (y:=.inl ()) ?_ (bu.2 bq);refine bQ.1 ?_;refine bP i.length (λc h=>h=(((e+c:X):Z),())) rfl ?_ ?_
     ·rintro c _ s rfl;obtain⟨L,M⟩:=g.rng c s;dsimp only;rw[aS (aI (aa:((e+c:X):Z)<((e+i.length:X):Z))),a9 aa];refine bC (y:=.inl ()) ?_ (bu.2 bq);rw[g.get c s];simp only[bM];rw[aS (by rw[aD aa];rfl),a7,l,aS (by rw[aD aa];rfl)];by_cases G:c=0
      ·rw[aP (by rw[aD aa];rfl)]
      have z:=g.asc (c-1) aa;have A:=g.get (c-1) aa;rw[aS (by rw[aI aa];rfl),show az (((e+c:X):Z)-1)=((e+(c-1):X):Z) by rw[cF aa aa];omega,A];simp only[aF];simp only[(aa:c-1+1=c)] at z;rw[aP (aD aa)]
     rintro _ rfl;dsimp only;rw[aP (aD (aa:¬((e+i.length:X):Z)<((e+i.length:X):Z)))];exact bu.2 bq
    rintro _ rfl;dsimp only;rw[aP (aD (aa:¬((cV ps b+ps[b].aQ.length:X):Z)<=((cV ps b+ps[b].aQ.length-1:X):Z)))];exact bu.2 bq
   dsimp only;rw[sd f,IA f,a9 aa];refine b4 Y (b4 Sum.inl ?_);have j:az (az ((g3 ps b:Z)+az (2*(ps[b].aQ.length:Z)))-1)=((g3 ps b+ps[b].d.length:X):Z):=(by rw[cF (x:=2*(ps[b].aQ.length:Z)) aa aa,cF (x:=(g3 ps b:Z)+2*(ps[b].aQ.length:Z)) aa aa,cF aa aa];omega);rw[j,(aa:cV ps b+ps[b].aQ.length-1+1=cV ps b+ps[b].aQ.length)]
  rintro _ rfl;dsimp only;rw[a7,a.q6,aP (aD (aa:¬((ps.length:Z)<(ps.length:Z)))),FX,Iz,a.ok.len,<-a.rV];exact bu.2 bq
 rintro _ rfl;dsimp only;rw[a7,a7,l,aS ac];exact bu.2 ac
end
end
section
def nh (a:aN):Z×Z×Z:=
 if a.aQ.length=2/\kW (jT a.d)<0 then(1,0,1) else if kW (a6 (a.d.getD 0 0))<0 then(a.aQ.length,0,0) else if kW (a6 (a.d.getD 0 0))>0 then(0,0,a.aQ.length) else(0,1,0)
def ia (b:bp aN):Z×Z×Z:=((b.map λa=>(nh a).1).sum,(b.map λa=>(nh a).2.1).sum,(b.map λa=>(nh a).2.2).sum)
def Tr (b:a<e.length):ia (e.take (a+1))=((ia (e.take a)).1+(nh e[a]).1,(ia (e.take a)).2.1+(nh e[a]).2.1,(ia (e.take a)).2.2+(nh e[a]).2.2):=by unfold ia;rw[mL b];simp only[iK,aqA,ir,sL,aqz,List.sum_nil,ana]
section
variable {n:X} {ps:bp aN} {F:c3}
def afK {a:aN} (b:a.aQ.length=1\/a.aQ.length=2):0<=(nh a).1/\(nh a).1<=2/\0<=(nh a).2.1/\(nh a).2.1<=2/\0<=(nh a).2.2/\(nh a).2.2<=2:=by
 unfold nh;split
 ·decide
 split
 ·dsimp only;omega
 split
 ·dsimp only;omega
 decide
def hU.afM (b:hU n ps F):∀{a:X},a<=ps.length->0<=(ia (ps.take a)).1/\(ia (ps.take a)).1<=2*a/\0<=(ia (ps.take a)).2.1/\(ia (ps.take a)).2.1<=2*a/\0<=(ia (ps.take a)).2.2/\(ia (ps.take a)).2.2<=2*a:=by
 intro a d
 induction a with
 |zero=>simp[ia]
 |succ a c=>
  have:=c aa;have:=afK (b.ok.gd (aa:a<ps.length)).1;rw[Tr aa];dsimp only;omega
def hU.diag (b:hU n ps F) (c:a<ps.length):(F.2.2.1.take (g3 ps (a+1))).drop (g3 ps a)=ps[a].d/\g3 ps (a+1)<=F.2.2.1.length/\g3 ps (a+1)=g3 ps a+ps[a].d.length/\aq F.2.2.1 (g3 ps a:Z)=Y (ps[a].d.getD 0 0):=by
 obtain⟨i,k,_⟩:=b.ok.gd c;have h:=JA aN.d c;have f:=vY aN.d c (j:=0) aa;have g:=IA c;refine⟨by rw[b.rV];exact h,?_,g,?_⟩
 ·have e:=b4 cE (b4 (aoe aN.d) (jF (a+1) ps));rw[mn,hq] at e;rw[b.rV];unfold g3;omega
 rw[b.rV,jL aa];exact fR f
theorem T0 {l:ak7} (d:l.length=3):∃a b c,l=[a,b,c]:=by
 match l,d with
 |[a,b,c],_=>exact⟨a,b,c,bq⟩
def hU.Ho (c:hU n ps F):(∀b∈F.2.2.2.2.2.1,eH b/\cH b≠2047)/\∀b∈F.2.2.1,eH b/\cH b≠2047:=by
 constructor
 ·intro b a;rw[c.nO] at a;obtain⟨l,f,a⟩:=xm.1 a;obtain⟨e,d,f⟩:=xm.1 f;obtain⟨g,h,rfl⟩:=e1.1 f;obtain⟨i,j,rfl⟩:=e1.1 a;exact⟨(c.ok.k e d).PZ g h i,(c.ok.de e d).fin g h i ((CF _ _).mem_iff.1 j)⟩
 intro b a;rw[c.rV] at a;obtain⟨e,d,a⟩:=xm.1 a;exact⟨(c.ok.k e d).DC b a,(c.ok.k e d).Fj b a⟩
def u2.two {a:aN} (p:u2 a) (B:a.aQ.length=2) (J:a.d.length=2*a.aQ.length-1):vM (a.d,())=Y (aw (jT a.d),())/\cN (jT a.d)/\kW (jT a.d)≠0/\(¬kW (jT a.d)<0->kW (a6 (a.d.getD 0 0))≠0):=by
 obtain⟨f,g,k,o⟩:=T0 (l:=a.d) aa;have m:=p.DC;have n:=p.Fj;have h:=p.mC B;rw[o] at m n h|-;have z:=n f ac;have u:=n g ac;have A:=n k ac;obtain⟨j,c⟩:∃j:X,j=65536:=⟨_,bq⟩;obtain⟨F,x,M,q,ax,I,r,s⟩:=aoi c (ali c z) (ali c A) ab ab ab;obtain⟨G,H,N,e,y,f2,t,f4⟩:=aoi c (ali c u) (ali c u) ab ab ab;have v:jT [f,g,k]=Y (q+-e):=(by have:=(ant c ab F G.neg ab).2;rw[r,t] at this;show cQ (cM (a6 f) (a6 k)) (dd (cM (a6 g) (a6 g)))=_;rw[r,t];exact this);refine⟨Su (m f ac) (m g ac) (m k ac),k7 _ _,?_,λw b=>?_⟩
 ·rw[v] at h|-;intro i;refine h (b4 Y ?_);have i:gI (q+-e)=0:=i;unfold gI at i;split at i
  ·omega
  split at i<;>omega
 have b:kW (a6 f)=0:=b;rw[ax] at b;have D:x=0:=by
  have b:gI x=0:=b;unfold gI at b;split at b
  ·omega
  split at b<;>omega
 rw[D,oz] at s;have C:(0:Z)<2^j:=mT ab;have E:q=0:=(anb.1 s).resolve_right aa;rw[y] at f2;cases f2;have L:0<=e:=(by have:0<=e*2^j:=(by rw[f4,<-Int.natAbs_mul_self' H];exact mS aa aa);exact Int.nonneg_of_mul_nonneg_left this C);rw[v,E] at w h;have K:e≠0:=λo=>h (by rw[o];rfl);refine w ?_;show gI (0+-e)<0;unfold gI;split
 ·omega
 split<;>omega
end
end
section
section
variable {n:X} {ps:bp aN} {F:c3}
def aaE (a:-100000<=j) (b:j<=100000):aO j=j+1:=cF (x:=j+1) aa aa
def hU.at (b:hU n ps F) (c:a<ps.length):az (az ((g3 ps a:Z)+az (2*(ps[a].aQ.length:Z)))-1)=(g3 ps (a+1):Z)/\(ps[a].aQ.length=2->az ((g3 ps a:Z)+3)=(g3 ps (a+1):Z)):=by
 obtain⟨h,i,_⟩:=b.ok.gd c;obtain⟨_,d,e,_⟩:=b.diag c;have:=b.small.2.2.2.2;have g:=b.o5;refine⟨?_,λf=>?_⟩
 ·rw[cF (x:=2*(ps[a].aQ.length:Z)) aa aa,cF (x:=(g3 ps a:Z)+2*(ps[a].aQ.length:Z)) aa aa,cF aa aa];omega
 rw[cF aa aa];omega
def Lu (a:hU n ps F):tD (F,())=Y (0,()):=by
 obtain⟨q,z,r,A,B⟩:=a.small;obtain⟨v1,fL⟩:=a.Ho;have x:=a.o5
 classical
 unfold tD;refine bQ.1 ?_;dsimp only;refine bC (y:=.inl ()) ?_ ?_
 ·rw[a7,q,aP (aD (aa:¬((n:Z)>200)))];refine aj (Lw aa aa) ?_;dsimp only;rw[aI a.or,aP af];refine aj (y:=(br,())) ?_ ?_
  ·rw[a7,a.zq,a9 aa,aS ac,a7,a7,r];simp
  dsimp only;rw[aP af];refine aj (afw a) ?_;dsimp only;rw[aP af]
 dsimp only;refine bF (P:=λf=>f=.inl ()) ?_ ?_
 ·refine bP F.2.2.2.2.2.1.length (λc g=>g=((c:Z),())) rfl ?_ ?_
  ·rintro c _ e rfl;dsimp only;rw[a7,aS (aI (aa:(c:Z)<(F.2.2.2.2.2.1.length:Z))),a9 aa];refine bC (eP e) ?_;obtain⟨h,i⟩:=v1 _ (b1 e);refine bC (wQ h) ?_;dsimp only;rw[aD i,aP af];exact bu.2 bq
  rintro _ rfl;dsimp only;rw[a7,aP (aD (aa:¬((F.2.2.2.2.2.1.length:Z)<(F.2.2.2.2.2.1.length:Z))))];exact bu.2 bq
 rintro _ rfl;dsimp only;refine bF (P:=λf=>f=.inl ()) ?_ ?_
 ·refine bP F.2.2.1.length (λc g=>g=((c:Z),())) rfl ?_ ?_
  ·rintro c _ e rfl;dsimp only;rw[a7,aS (aI (aa:(c:Z)<(F.2.2.1.length:Z))),a9 aa];refine bC (eP e) ?_;obtain⟨h,i⟩:=fL _ (b1 e);refine bC (wQ h) ?_;dsimp only;rw[aD i,aP af];exact bu.2 bq
  rintro _ rfl;dsimp only;rw[a7,aP (aD (aa:¬((F.2.2.1.length:Z)<(F.2.2.1.length:Z))))];exact bu.2 bq
 rintro _ rfl;dsimp only;refine bF (P:=λf=>f=.inl ()) ?_ (by rintro _ rfl;exact bu.2 bq);refine bP ps.length (λb g=>g=((g3 ps b:Z),(b:Z),())) rfl ?_ ?_
 ·rintro b _ d rfl;obtain⟨C,v,_⟩:=a.ok.gd d;obtain⟨o,p,w,_⟩:=a.diag d;obtain⟨l,m⟩:=a.at d;dsimp only;rw[a7,a.q6,aS (aI (aa:(b:Z)<(ps.length:Z))),a9 aa,a.gd b d];simp only[bM];refine bC (y:=.inl ((g3 ps (b+1):Z),())) ?_ (bu.2 bq);refine aj (y:=.inl ()) ?_ ?_
  ·rw[gp];by_cases j:ps[b].aQ.length=2
   ·obtain⟨s,t,u,_⟩:=(a.ok.k _ (b1 d)).two j v;rw[aI (aa:((ps[b].aQ.length:X):Z)=2),aS af,m j];refine aj (TC aa p) ?_;dsimp only;rw[o];refine aj s (aj (SC t) ?_);dsimp only;rw[gp,aP (aD u)]
   rw[aD (aa:¬((ps[b].aQ.length:X):Z)=2),aP af]
  dsimp only;rw[l]
 rintro _ rfl;dsimp only;rw[a7,a.q6,aP (aD (aa:¬((ps.length:Z)<(ps.length:Z))))];exact bu.2 bq
end
end
section
def Qf {o:ak7} {n:X} (a:n<=200) (b:e8 o n):II (o,())=Y (bt,()):=Y6 a b
section
variable {n:X} {ps:bp aN} {F:c3}
def nG (ps:bp aN) (a:X):ak7:=(bK a).map λb=>(cV ps b:Z)
theorem X4 (ps:bp aN) (a:X):nG ps (a+1)=nG ps a++[(cV ps a:Z)]:=by grind [alu,nG]
theorem Fz (ps:bp aN) (a:X):(nG ps a).length=a:=by grind [nG]
theorem Jz (c:a<b):aq (nG ps b) (a:Z)=Y (cV ps a:Z):=by grind [eP,Fz,nG]
theorem Sf (b:hU n ps F):AM (F,())=Y (nG ps ps.length,bt,()):=by
 obtain⟨h,o,p,q,r⟩:=b.small;have k:=b.o5;unfold AM;refine bQ.1 ?_;dsimp only;refine bF (P:=λf=>f=.inl ((n:Z),(F.2.2.1.length:Z),nG ps ps.length,())) ?_ ?_
 ·refine bP ps.length (λa g=>g=((cV ps a:Z),(g3 ps a:Z),(a:Z),nG ps a,())) rfl ?_ ?_
  ·rintro a _ c rfl;obtain⟨s,t,_⟩:=b.ok.gd c;have m:=b.ok.wa c;have e:(ps[a].aQ.length:Z)=1\/(ps[a].aQ.length:Z)=2:=aa;obtain⟨i,_⟩:=b.at c;have l:=b.diag c;dsimp only;rw[a7,b.q6,aS (aI (aa:(a:Z)<(ps.length:Z))),a9 aa,b.gd a c];simp only[bM];refine bC (y:=.inl ((cV ps (a+1):Z),(g3 ps (a+1):Z),nG ps (a+1),())) ?_ (bu.2 bq);refine aj (y:=.inl (nG ps a,())) ?_ ?_
   ·refine aj (y:=(br,nG ps a,())) ?_ ?_
    ·rw[a7,h,aD (aa:¬((cV ps a:Z)>=(n:Z)))];rcases e with d|d
     ·grind
     simp_all
    grind
   dsimp only;rw[c9 (by grind [Fz]),bM,X4,sd c,cF (x:=(cV ps a:Z)+(ps[a].aQ.length:Z)) aa aa];have j:az ((g3 ps a:Z)+az (az (2*(ps[a].aQ.length:Z))-1))=(g3 ps (a+1):Z):=(by rw[cF (x:=2*(ps[a].aQ.length:Z)) aa aa,cF (x:=2*(ps[a].aQ.length:Z)-1) aa aa,cF aa aa];omega);grind
  rintro _ rfl;dsimp only;rw[a7,b.q6,aP (aD (aa:¬((ps.length:Z)<(ps.length:Z)))),FX,Iz,b.ok.len,<-b.rV];grind [bu]
 rintro _ rfl;simp_all [bu,a7,aS]
theorem WT (c:hU n ps F):D8 (F,nG ps ps.length,())=Y (bt,()):=by
 obtain⟨s,A,B,C,D⟩:=c.small;have t:=c.o5;unfold D8;refine bQ.1 ?_;dsimp only;have k:=c.st 0 aa;have m:=c.st n aa;refine bC (y:=.inl ()) ?_ ?_
 ·refine aj (y:=(0:Z)) (k.trans ac) ?_;rw[aS af,a7,s,m];simp only[aF];rw[a7,c.iG,<-c.ok.call,gC,aP ac]
 dsimp only;refine bF (P:=λi=>i=.inl ()) ?_ (by grind [bu]);refine bP ps.length (λa f=>f=((a:Z),())) rfl ?_ ?_
 ·rintro a _ e rfl;obtain⟨E,G,_⟩:=c.ok.gd e;have u:=c.ok.wa e;dsimp only;rw[a7,Fz,aS (aI (aa:(a:Z)<(ps.length:Z))),a9 aa,Jz e,c.gd a e];simp only[bM];have l:az (az ((cV ps a:Z)+(ps[a].aQ.length:Z))-1)=((cV ps a+ps[a].aQ.length-1:X):Z):=by
   grind [cF]
  rw[l];refine bF (P:=λi=>i=.inl ()) ?_ (by grind [bu]);refine bP ps[a].aQ.length (λh f=>f=(((cV ps a+h:X):Z),())) rfl ?_ ?_
  ·rintro h _ r rfl;obtain⟨w,d,g,o,p⟩:=c.xV e r;have q:=g.len;dsimp only;rw[aS (aI (aa:((cV ps a+h:X):Z)<=((cV ps a+ps[a].aQ.length-1:X):Z))),a9 aa,o,p];simp only[bM];refine bC (y:=.inl ()) ?_ (bu.2 bq);refine aj (y:=.inl ()) ?_ ?_
   ·rw[aS ae,a7,aP (aD aa)]
   dsimp only;refine aj (TC aa q) ?_;dsimp only;rw[g.afT];refine aj (y:=.inl ()) ?_ bq;refine bQ.1 ?_;refine bP d.length (λb f=>f=((if b=0 then((cV ps a+ps[a].aQ.length-1:X):Z) else d.getD (b-1) 0),(b:Z),())) rfl ?_ ?_
   ·rintro b _ j rfl;obtain⟨x,z⟩:=g.rng b j;dsimp only;rw[a7,aS (aI (aa:(b:Z)<(d.length:Z))),a9 aa,eP j];simp only[bM];refine bC (y:=.inl (d[b],())) ?_ ?_
    ·refine aj (y:=.inl ()) ?_ bq;have v:(if b=0 then((cV ps a+ps[a].aQ.length-1:X):Z) else d.getD (b-1) 0)<d[b]:=by
      split
      ·omega
      have:=g.asc (b-1) aa;grind
     grind
    simp_all [bu,aA,Nat.succ_ne_zero,aoX,jL]
   rintro _ rfl;dsimp only;rw[a7,aP (aD (aa:¬((d.length:Z)<(d.length:Z))))];grind [bu]
  rintro _ rfl;dsimp only;rw[aP (aD (aa:¬((cV ps a+ps[a].aQ.length:X):Z)<=((cV ps a+ps[a].aQ.length-1:X):Z)))];grind [bu]
 rintro _ rfl;dsimp only;rw[a7,Fz,aP (aD (aa:¬((ps.length:Z)<(ps.length:Z))))];grind [bu]
def jm (b:aN):bp fV:=b.d.map λa=>aw (a6 a)
theorem Jc (b:hU n ps F):x7 (F,())=Y (ps.map jm,()):=by
 obtain⟨u,v,w,z,A⟩:=b.small;have t:=b.o5;unfold x7;refine bQ.1 ?_;dsimp only;refine bF (P:=λf=>f=(ps.map jm,())) ?_ (by grind [bu]);refine bP ps.length (λa g=>g=((g3 ps a:Z),(a:Z),(ps.take a).map jm,())) rfl ?_ ?_
 ·rintro a _ e rfl;obtain⟨B,C,_⟩:=b.ok.gd e;obtain⟨q,r,l,s⟩:=b.diag e;have o:=(b.ok.k _ (b1 e)).DC;dsimp only;rw[a7,b.q6,aS (aI (aa:(a:Z)<(ps.length:Z))),a9 aa,b.gd a e];simp only[bM];have m:az (az (2*(ps[a].aQ.length:Z))-1)=(ps[a].d.length:Z):=by
   rw[cF (x:=2*(ps[a].aQ.length:Z)) aa aa,cF aa aa];omega
  rw[m];refine bF (P:=λf=>f=((g3 ps (a+1):Z),(ps.take a).map jm,jm ps[a],())) ?_ ?_
  ·refine bP ps[a].d.length (λc g=>g=(((g3 ps a+c:X):Z),(c:Z),(ps.take a).map jm,(ps[a].d.take c).map (λi=>aw (a6 i)),())) rfl ?_ ?_
   ·rintro c _ h rfl;have p:=vY aN.d e (j:=c) h;dsimp only;rw[aS (aI (aa:(c:Z)<(ps[a].d.length:Z))),a9 aa,a9 aa];refine bC (y:=ps[a].d[c]) (by rw[b.rV];exact fR p) ?_;refine bC (qT (o _ (b1 h))) ?_;dsimp only;rw[c9 ae,bM];grind [mL,bu]
   rintro _ rfl;dsimp only;rw[aP (aD (aa:¬((ps[a].d.length:Z)<(ps[a].d.length:Z)))),cm,<-l];exact bu.2 bq
  rintro _ rfl;dsimp only;rw[c9 ae,bM];grind [mL,bu]
 rintro _ rfl;dsimp only;rw[a7,b.q6,aP (aD (aa:¬((ps.length:Z)<(ps.length:Z)))),cm];grind [bu]
end
end
section
section
variable {n:X} {ps:bp aN} {F:c3}
theorem Kg {a:aN} (b:a.d.length=3):vz (jm a,())=Y (aw (jT a.d),()):=by grind [Oz,T0,jm]
theorem F4 (a:hU n ps F):rM (F,())=Y (0,()):=by
 obtain⟨t,B,u,C,D⟩:=a.small;obtain⟨v1,fL⟩:=a.Ho;have z:=a.o5;have A:=a.del;unfold rM;refine bQ.1 ?_;dsimp only;refine bC (y:=.inl ()) ?_ ?_
 ·rw[a7,t,aP (aD (aa:¬((n:Z)>200)))];refine aj (Qf aa a.or) ?_;dsimp only;rw[aP af,a7,a.zq,a9 aa,aS ac,a7,a7,u,aP ac]
 dsimp only;refine bC (Sf a) ?_;dsimp only;refine bC (y:=.inl ()) ?_ ?_
 ·rw[aS af,aS ae];refine aj (WT a) ?_;grind
 dsimp only;refine bF (P:=λe=>e=.inl ()) ?_ ?_
 ·have m:∀b∈[F.2.2.2.2.2.1,F.2.2.1],b.length<=1000/\∀o∈b,eH o/\cH o≠2047:=λb m=>by
   grind
  refine bP 2 (λg f=>f=((g:Z),[F.2.2.2.2.2.1,F.2.2.1],())) rfl ?_ ?_
  ·rintro g _ r rfl;have l:g<([F.2.2.2.2.2.1,F.2.2.1]:akW).length:=r;obtain⟨aE,s⟩:=m _ (b1 l);dsimp only;rw[a7,show(([F.2.2.2.2.2.1,F.2.2.1]:akW).length:Z)=2 from rfl,aS (aI (aa:(g:Z)<2)),a9 aa,jM l];generalize([F.2.2.2.2.2.1,F.2.2.1]:akW)[g]=b at*;refine bF (P:=λe=>e=.inl ([F.2.2.2.2.2.1,F.2.2.1],())) ?_ (by grind [bu]);refine bP b.length (λh f=>f=((h:Z),[F.2.2.2.2.2.1,F.2.2.1],())) rfl ?_ ?_
   ·rintro h _ j rfl;obtain⟨v,w⟩:=s _ (b1 j);dsimp only;rw[a7,aS (aI (aa:(h:Z)<(b.length:Z))),a9 aa];refine bC (eP j) (bC (FW v) ?_);dsimp only;rw[aD w,aP af];grind [bu]
   rintro _ rfl;dsimp only;rw[a7,aP (aD (aa:¬((b.length:Z)<(b.length:Z))))];grind [bu]
  grind [bu]
 rintro _ rfl;dsimp only;refine bC (Jc a) ?_;dsimp only;refine bF (P:=λe=>e=.inl ()) ?_ (by grind [bu]);refine bP ps.length (λc f=>f=((c:Z),ps.map jm,())) rfl ?_ ?_
 ·rintro c _ i rfl;obtain⟨I,x,_⟩:=a.ok.gd i;dsimp only;rw[a7,b6,aS (aI (aa:(c:Z)<(ps.length:Z))),a9 aa,jM ae,an5];refine bC (y:=.inl (ps.map jm,())) ?_ (bu.2 bq);have q:ar (jm ps[c])=(ps[c].d.length:Z):=(by grind [b6,a7,jm]);rw[q,gp];by_cases p:ps[c].aQ.length=2
  ·obtain⟨E,G,H,_⟩:=(a.ok.k _ (cK i)).two p x;simp_all [gp,aP,aD,aj,Kg,oX,aI,aS]
  grind
 rintro _ rfl;dsimp only;rw[a7,b6,aP (aD (aa:¬((ps.length:Z)<(ps.length:Z))))];grind [bu]
theorem Zs (b:hU n ps F):D6 (F,())=Y (((ia ps).1,(ia ps).2.1,(ia ps).2.2,()),0,()):=by
 obtain⟨w,x,z,A,B⟩:=b.small;have u:=b.o5;unfold D6;refine bQ.1 ?_;refine bC (F4 b) ?_;dsimp only;rw[aP af];refine bC (Jc b) ?_;dsimp only;refine bF (P:=λp=>p=(((0:Z),(0:Z),(0:Z),()),((ia ps).1,(ia ps).2.1,(ia ps).2.2,()),())) ?_ (by grind [bu]);refine bP ps.length (λa q=>q=((a:Z),((0:Z),(0:Z),(0:Z),()),((ia (ps.take a)).1,(ia (ps.take a)).2.1,(ia (ps.take a)).2.2,()),ps.map jm,())) rfl ?_ ?_
 ·rintro a _ e rfl;obtain⟨t,i,_⟩:=b.ok.gd e;have v:=b.afM (aa:a<=ps.length);have o:=Tr e;have m:ar (jm ps[a])=(ps[a].d.length:Z):=(by grind [b6,a7,jm]);have l:aq (jm ps[a]) 0=Y (aw (a6 (ps[a].d.getD 0 0))):=by
   grind [jL,eP,b6,trans,jm]
  dsimp only;rw[a7,b6,aS (aI (aa:(a:Z)<(ps.length:Z))),a9 aa,jM ae,an5];refine bC (y:=(((0:Z),(0:Z),(0:Z),()),((ia (ps.take (a+1))).1,(ia (ps.take (a+1))).2.1,(ia (ps.take (a+1))).2.2,()),ps.map jm,())) ?_ (bu.2 bq);refine aj l (aj (oX (fF _)) ?_);dsimp only;rw[m,gp,o];unfold nh;by_cases h:ps[a].aQ.length=2/\kW (jT ps[a].d)<0
  ·obtain⟨r,j,s,_⟩:=(b.ok.k _ (cK e)).two h.1 i;refine aj (y:=.inr (((0:Z),(0:Z),(0:Z),()),((ia (ps.take a)).1+1,(ia (ps.take a)).2.1,(ia (ps.take a)).2.2+1,()),ps.map jm,())) ?_ ?_
   ·rw[aI (aa:((ps[a].d.length:X):Z)=3),bI];refine aj (Kg aa) (aj (oX j) ?_);dsimp only;rw[aS (aI h.2),aaE aa aa,cF aa aa]
   grind
  refine aj (y:=.inl ((ps[a].aQ.length:Z),((0:Z),(0:Z),(0:Z),()),((ia (ps.take a)).1,(ia (ps.take a)).2.1,(ia (ps.take a)).2.2,()),ps.map jm,())) ?_ ?_
  ·by_cases c:ps[a].aQ.length=2
   ·obtain⟨r,j,s,_⟩:=(b.ok.k _ (cK e)).two c i;simp_all [aP,aD,aj,Kg,oX,aI,bI]
   grind
  dsimp only;rw[ck h];by_cases f:kW (a6 (ps[a].d.getD 0 0))<0
  ·rw[aI f,bI,aB f];grind [cF]
  rw[aD f,bR,aA f];by_cases g:kW (a6 (ps[a].d.getD 0 0))>0
  ·rw[aI g,bI,aB g];grind [cF]
  rw[aD g,bR,aA g];have ax:ps[a].aQ.length=1:=by
   rcases t with c|c
   ·exact c
   obtain⟨_,_,_,C⟩:=(b.ok.k _ (cK e)).two c i;omega
  grind [cF]
 rintro _ rfl;dsimp only;rw[a7,b6,aP (aD (aa:¬((ps.length:Z)<(ps.length:Z)))),cm];grind [bu]
end
end
section
def fU {α:Type} (m n:X) (E:X->X->α):bp (bp α):=aC m λi=>aC n (E i)
def hn {α:Type} (E:X->X->α) (i j:X) (c:α):X->X->α:=λa b=>if a=i/\b=j then c else E a b
section
variable {α:Type} {m n:X} {E:X->X->α} {i j:X}
def LQ:(fU m n E).length=m:=cU _ _
def zg {c:X->X->α} (d:∀a,a<m->∀b,b<n->E a b=c a b):fU m n E=fU m n c:=c4 λa e=>c4 λb f=>d a e b f
def zh (a:i<m):bm (fU m n E).length (i:Z)=Y i:=by rw[LQ];exact eV a
def zi (b:i<m) (c:j<n):((ba (fU m n E) i λa=>Y a).bind λa=>bm a.length (j:Z))=Y j:=by unfold fU;rw[gh (h0 b),aF,cU,eV c]
def zj (k:i<m) (l:j<n) (f:α):(ba (fU m n E) i λe=>(ba e j λ_=>Y (e.set j f)).map λo=>(fU m n E).set i o)=Y (fU m n (hn E i j f)):=by
 unfold fU;rw[gh (h0 k),gh (h0 l),jv];congr 1;rw[ha,ha];refine c4 λg p=>?_;by_cases a:g=i
 ·subst a;rw[gA];refine c4 λd h=>?_;by_cases b:d=j
  ·subst b;rw[gA];exact(aB ⟨bq,bq⟩).symm
  rw[gT _ _ b];exact(aA (λc=>b c.2)).symm
 rw[gT _ _ a];refine c4 λd h=>?_;exact(aA (λc=>a c.1)).symm
def LP (a:i<m):aq (fU m n E) (i:Z)=Y (aC n (E i)):=fR (h0 a)
end
def CI (E:X->X->ak1) (i j:X) (c:ak1):(λa b=>aw (hn E i j c a b))=hn (λa b=>aw (E a b)) i j (aw c):=by funext a b;unfold hn;split<;>rfl
def gJ (ps:bp aN) (a j:X):ak1:=if a=j then iv 1 else match(ps.flatMap cb)[j]? with
 |some b=>if(ps.flatMap aN.aQ).getD a 0∈b.1 then a6 (b.2 ((ps.flatMap aN.aQ).getD a 0)) else Y 0
 |none=>Y 0
def iV (ps:bp aN):X->X->X->ak1
 |0=>λ_ _=>Y 0
 |b+1=>match ps[b]? with
  |some a=>if a.aQ.length=2 then hn (hn (hn (hn (iV ps b) (cV ps b) (cV ps b) (a6 (a.d.getD 0 0))) (cV ps b+1) (cV ps b) (a6 (a.d.getD 1 0))) (cV ps b) (cV ps b+1) (a6 (a.d.getD 1 0))) (cV ps b+1) (cV ps b+1) (a6 (a.d.getD 2 0))
   else hn (iV ps b) (cV ps b) (cV ps b) (a6 (a.d.getD 0 0))
  |none=>iV ps b
section
variable {n:X} {ps:bp aN} {F:c3}
def kI (ps:bp aN) (j b a:X):fV:=if a<j then aw (gJ ps b a) else if b=a then aw (iv 1) else iP
def sD (ps:bp aN) (d:iB) (c:ak6) (j e a b:X):fV:=if b=j/\(ps.flatMap aN.aQ).getD a 0∈c.take e then aw (a6 (d.2 ((ps.flatMap aN.aQ).getD a 0))) else kI ps j a b
theorem hB.getD (c:hB n ps) {a:X} (e:a<n):(ps.flatMap aN.aQ).getD ((ps.flatMap aN.aQ).idxOf a) 0=a:=by have d:=c.perm.mem_iff.2 (hN.2 e);have b:=C4.2 d;rw[k2,bh b,aoh b];rfl
def hB.idx (b:hB n ps) (e:a<n):(ps.flatMap aN.aQ).idxOf ((ps.flatMap aN.aQ).getD a 0)=a:=by have c:a<(ps.flatMap aN.aQ).length:=(by rw[b.len];exact e);have f:=b.perm.nodup_iff.2 uU;rw[k2,bh c,sP];have d:=C4.2 (cK c);exact(qg f).1 (aoh d)
end
end
section
section
variable {n:X} {ps:bp aN} {F:c3}
def hB.eL (f:hB n ps) (i:a<n):∃b c,∃d:b<ps.length,c<ps[b].aQ.length/\a=cV ps b+c:=by
 have k:∀b,b<=ps.length->a<cV ps b->∃b c,∃d:b<ps.length,c<ps[b].aQ.length/\a=cV ps b+c:=by
  intro b
  induction b with
  |zero=>intro _ g;exact absurd g (by unfold cV;simp)
  |succ b j=>
   intro d h;by_cases e:a<cV ps b
   ·exact j aa e
   rw[sd aa] at h;exact⟨b,a-cV ps b,aa,aa,aa⟩
 exact k ps.length (bg _) (by rw[FX,f.len];exact i)
structure UE (n:X) (ps:bp aN) (F:c3) (j:X) (c:iB) (lo:X) (S:ak6):Prop where
 cs:(ps.flatMap cb)[j]?=Y c
 LU:aq F.2.2.2.1 (j:Z)=Y (lo:Z)
 s1:aq F.2.2.2.1 ((j+1:X):Z)=Y ((lo+S.length:X):Z)
 iG:∀t (pP:t<S.length),aq F.2.2.2.2.1 ((lo+t:X):Z)=Y ((ps.flatMap aN.aQ).idxOf S[t]:Z)/\aq F.2.2.2.2.2.1 ((lo+t:X):Z)=Y (c.2 S[t])
 mem:∀r,r∈S↔r∈c.1
 nd:S.Nodup
 row:∀r∈c.1,j<(ps.flatMap aN.aQ).idxOf r/\(ps.flatMap aN.aQ).idxOf r<n/\r<n/\eH (c.2 r)/\cH (c.2 r)≠2047
 le:lo+S.length<=144
def hU.N2 (c:hU n ps F) (B:a<n):∃r H x,UE n ps F a r H x:=by
 obtain⟨d,D,h,A,rfl⟩:=c.ok.eL B;obtain⟨g,s,t⟩:=c.ok.xV h A;obtain⟨m,z⟩:=ih.1 t;have o:=Ik (e5 λb=>(ps.flatMap aN.aQ).idxOf b) m;have K:=NS (e5 λb=>(ps.flatMap aN.aQ).idxOf b) (cs:=ps.flatMap cb) (cV ps d+D+1);have v:=λe i=>vY (e5 λb=>(ps.flatMap aN.aQ).idxOf b) m (j:=e) i;have w:=λe i=>vY (hE λb=>(ps.flatMap aN.aQ).idxOf b) m (j:=e) i;rw[z] at o v w;have p:=c.ok.de _ (cK h);have C:=c.small;have u:(e5 (λb=>(ps.flatMap aN.aQ).idxOf b) (ps[d].rows,g)).length=(md (λb=>(ps.flatMap aN.aQ).idxOf b) ps[d].rows).length:=(by unfold e5;rw[di]);have J:(hE (λb=>(ps.flatMap aN.aQ).idxOf b) (ps[d].rows,g)).length=(md (λb=>(ps.flatMap aN.aQ).idxOf b) ps[d].rows).length:=(by unfold hE;rw[di]);have G:∀f:bp iB,(f.flatMap (hE λb=>(ps.flatMap aN.aQ).idxOf b)).length=(f.flatMap (e5 λb=>(ps.flatMap aN.aQ).idxOf b)).length:=by
  intro f
  induction f with
  |nil=>rfl
  |cons r f E=>
   rw[uS,uS,hq,hq,E];congr 1;unfold hE e5;rw[di,di]
 refine⟨(ps[d].rows,g),_,md (λb=>(ps.flatMap aN.aQ).idxOf b) ps[d].rows,t,c.st _ aa,?_,λe i=>⟨?_,?_⟩,λl=>(CF _ _).mem_iff,(CF _ _).nodup_iff.2 p.nd,λl q=>?_,?_⟩
 ·rw[c.st _ aa,o,u]
 ·rw[c.iG];refine(fR (v e aa)).trans ?_;unfold e5;rw[oE]
 ·rw[c.nO,<-G];refine(fR (w e aa)).trans ?_;unfold hE;rw[oE]
 ·obtain⟨I,y⟩:=c.ok.after h q;exact⟨aa,y,hN.1 (p.sub l q),(c.ok.k _ (cK h)).PZ g s l,p.fin g s l q⟩
 rw[<-u,<-o];rw[c.iG] at C;omega
def aey (o:hU n ps F):E9 (F,())=Y (fU n n (λb a=>aw (gJ ps b a)),fU n n (λb a=>aw (iV ps ps.length b a)),()):=by
 obtain⟨C,ci,co,cv,c1⟩:=o.small;have a3:=o.o5;unfold E9;refine bQ.1 ?_;dsimp only;refine bF (P:=λc=>c=(fU n n (kI ps 0),fU n n (λ_ _=>iP),())) ?_ ?_
 ·refine bP n (λe v=>v=((e:Z),fU e n (kI ps 0),fU e n (λ_ _=>iP),())) rfl ?_ ?_
  ·rintro e _ L rfl;dsimp only;rw[a7,C,aS (aI (aa:(e:Z)<(n:Z))),a9 aa];refine bC (hP aa) ?_;rw[c9 (by rw[LQ];simp;omega),bM];refine bC (hP aa) ?_;rw[c9 (by rw[LQ];simp;omega),bM];have ax:fU e n (kI ps 0)++[bJ n (br,((br,(([]:ak7),())),((0:Z),())))]=fU (e+1) n (λb a=>if b=e then iP else kI ps 0 b a):=by
    unfold fU;rw[r0,iF];congr 1
    ·refine c4 λb s=>c4 λa g=>?_;show kI ps 0 b a=if b=e then iP else kI ps 0 b a
     rw[aA aa]
    congr 1;refine c4 λa g=>?_;show iP=if e=e then iP else kI ps 0 e a
    rw[aB bq]
   have D:fU e n (λ_ _=>iP)++[bJ n (br,((br,(([]:ak7),())),((0:Z),())))]=fU (e+1) n (λ_ _=>iP):=(by unfold fU;rw[r0,iF];rfl);rw[ax,D];refine bC (zh (alS e)) ?_;refine bC (Cj ab ab) ?_;dsimp only;refine bC (zi (alS e) L) ?_;refine bC (zj (alS e) L _) ?_;refine bu.2 ?_;show _=_;have u:fU (e+1) n (hn (λb a=>if b=e then iP else kI ps 0 b a) e e (aw (iv 1)))=fU (e+1) n (kI ps 0):=zg λb s a g=>by
    unfold hn kI;dsimp only;by_cases h:b=e
    ·by_cases i:a=e
     ·rw[aB ⟨h,i⟩,aA aa,aB aa]
     rw[aA (λc=>i c.2),aB h,aA aa,aA aa]
    rw[aA (λc=>h c.1),aA h]
   rw[u]
  rintro _ rfl;dsimp only;rw[a7,C,aP (aD (aa:¬((n:Z)<(n:Z))))];exact bu.2 bq
 rintro _ rfl;dsimp only;refine bF (P:=λc=>c=(fU n n (λb a=>aw (gJ ps b a)),fU n n (λ_ _=>iP),())) ?_ ?_
 ·refine bP n (λl v=>v=((l:Z),fU n n (kI ps l),fU n n (λ_ _=>iP),())) rfl ?_ ?_
  ·rintro l _ G rfl;obtain⟨p,A,m,q⟩:=o.N2 G;have bl:=q.le;dsimp only;rw[a7,C,aS (aI (aa:(l:Z)<(n:Z))),a9 aa,q.LU,bM];refine bF (P:=λc=>c=(fU n n (kI ps (l+1)),fU n n (λ_ _=>iP),())) ?_ (by rintro _ rfl;exact bu.2 bq);refine bP m.length (λf v=>v=(((A+f:X):Z),fU n n (sD ps p m l f),fU n n (λ_ _=>iP),())) ?_ ?_ ?_
   ·show _=_;have:fU n n (sD ps p m l 0)=fU n n (kI ps l):=zg λb s a g=>(by unfold sD;rw[xo,aA ac]);rw[this];rfl
   ·rintro f _ t rfl;obtain⟨V,ad⟩:=q.iG f t;obtain⟨bx,H,T,aU,ce⟩:=q.row _ ((q.mem _).1 (b1 t));dsimp only;rw[q.s1,bM,aS (aI (aa:((A+f:X):Z)<((A+m.length:X):Z))),a9 aa,V,bM];refine bC (zh H) ?_;rw[ad,bM];refine bC (jN aU) ?_;dsimp only;refine bC (zi H G) (bC (zj H G _) ?_);refine bu.2 ?_;show _=_;have u:fU n n (hn (sD ps p m l f) ((ps.flatMap aN.aQ).idxOf m[f]) l (aw (a6 (p.2 m[f]))))=fU n n (sD ps p m l (f+1)):=zg λb s a g=>by
     unfold hn sD;rw[mL t];by_cases h:a=l
     ·by_cases i:b=(ps.flatMap aN.aQ).idxOf m[f]
      ·have w:(ps.flatMap aN.aQ).getD b 0=m[f]:=(by rw[i];exact o.ok.getD T);rw[aB ⟨i,h⟩,aB ⟨h,by rw[w];exact lw _ (fH.2 bq)⟩,w]
      have w:(ps.flatMap aN.aQ).getD b 0≠m[f]:=λw=>i (by rw[<-w];exact(o.ok.idx s).symm);rw[aA (λc=>i c.1)];by_cases B:(ps.flatMap aN.aQ).getD b 0∈m.take f
      ·rw[aB ⟨h,B⟩,aB ⟨h,oF _ B⟩]
      rw[aA (λc=>B c.2),aA (λc=>(hM.1 c.2).elim B (λam=>w (fH.1 am)))]
     rw[aA (λc=>h c.2),aA (λc=>h c.1),aA (λc=>h c.1)]
    rw[u];rfl
   rintro _ rfl;dsimp only;rw[q.s1,bM,aP (aD (aa:¬(((A+m.length:X):Z)<((A+m.length:X):Z))))];refine bu.2 ?_;show _=_;have u:fU n n (sD ps p m l m.length)=fU n n (kI ps (l+1)):=zg λb s a g=>by
    unfold sD kI;rw[gC];by_cases h:a=l
    ·subst h;rw[b9 (alS a)];unfold gJ;rw[q.cs];dsimp only;by_cases i:(ps.flatMap aN.aQ).getD b 0∈p.1
     ·have S:=(q.row _ i).1;rw[o.ok.idx s] at S;rw[aB ⟨bq,(q.mem _).2 i⟩,aA aa,aB i]
     rw[aA (λc=>i ((q.mem _).1 c.2)),aA (xq a),aA i];split
     ·rfl
     exact Bl
    rw[aA (λc=>h c.1)];by_cases i:a<l
    ·rw[aB i,aB aa]
    rw[aA i,aA (aa:¬a<l+1)]
   rw[u]
  rintro _ rfl;dsimp only;rw[a7,C,aP (aD (aa:¬((n:Z)<(n:Z))))];refine bu.2 ?_;show _=_;have u:fU n n (kI ps n)=fU n n (λb a=>aw (gJ ps b a)):=zg λb s a g=>(by unfold kI;rw[b9 g]);rw[u]
 rintro _ rfl;dsimp only;refine bF (P:=λc=>c=(fU n n (λb a=>aw (gJ ps b a)),fU n n (λb a=>aw (iV ps ps.length b a)),())) ?_ (by rintro _ rfl;exact bu.2 bq);refine bP ps.length (λa v=>v=((cV ps a:Z),(g3 ps a:Z),(a:Z),fU n n (λb a=>aw (gJ ps b a)),fU n n (λb p=>aw (iV ps a b p)),())) ?_ ?_ ?_
 ·show _=_;have:fU n n (λ_ _=>iP)=fU n n (λb p=>aw (iV ps 0 b p)):=zg λb s a g=>Bl;rw[this];rfl
 ·rintro a _ g rfl;obtain⟨c2,dg,_⟩:=o.ok.gd g;have a4:=o.ok.wa g;obtain⟨ap,av,a0,O⟩:=o.diag g;obtain⟨N,an⟩:=o.at g;have E:=(o.ok.k _ (cK g)).DC;have R:=λf t=>vY aN.d g (j:=f) t;have K:iV ps (a+1)=if ps[a].aQ.length=2 then hn (hn (hn (hn (iV ps a) (cV ps a) (cV ps a) (a6 (ps[a].d.getD 0 0))) (cV ps a+1) (cV ps a) (a6 (ps[a].d.getD 1 0))) (cV ps a) (cV ps a+1) (a6 (ps[a].d.getD 1 0))) (cV ps a+1) (cV ps a+1) (a6 (ps[a].d.getD 2 0))
   else hn (iV ps a) (cV ps a) (cV ps a) (a6 (ps[a].d.getD 0 0)):=by
   rw[iV,bh g]
  dsimp only;rw[a7,o.q6,aS (aI (aa:(a:Z)<(ps.length:Z))),show aO (a:Z)=((a+1:X):Z) from a9 aa];refine bC (y:=((cV ps (a+1):Z),(g3 ps (a+1):Z),fU n n (λb a=>aw (gJ ps b a)),fU n n (λb p=>aw (iV ps (a+1) b p)),())) ?_ (bu.2 bq);refine aj (zh (aa:cV ps a<n)) (aj O ?_);have Q:eH (ps[a].d.getD 0 0):=(by rw[jL aa];exact E _ (b1 _));refine aj (jN Q) ?_;dsimp only;refine aj (zi (aa:cV ps a<n) (aa:cV ps a<n)) (aj (zj (aa:cV ps a<n) (aa:cV ps a<n) _) ?_);refine aj (y:=(fU n n (λb a=>aw (gJ ps b a)),fU n n (λb p=>aw (iV ps (a+1) b p)),())) ?_ ?_
  ·rw[o.gd a g];simp only[aF];by_cases h:ps[a].aQ.length=2
   ·have z:cV ps a<n:=aa;have r:cV ps a+1<n:=aa;have J:∀f,f<ps[a].d.length->aq F.2.2.1 ((g3 ps a+f:X):Z)=Y (ps[a].d.getD f 0):=λf t=>by
     rw[o.rV,jL t];exact fR (R f t)
    have I:=J 1 aa;have i:=J 2 aa;have M:eH (ps[a].d.getD 1 0):=(by rw[jL aa];exact E _ (b1 _));have U:eH (ps[a].d.getD 2 0):=(by rw[jL aa];exact E _ (b1 _));have D:az ((g3 ps a:Z)+2)=((g3 ps a+2:X):Z):=(by rw[cF aa aa];omega);rw[gp,aI (aa:((ps[a].aQ.length:X):Z)=2),bI,show aO (cV ps a:Z)=((cV ps a+1:X):Z) from a9 aa,show aO (g3 ps a:Z)=((g3 ps a+1:X):Z) from a9 aa,D];refine aj (zh r) (aj (zh z) (aj (zh r) (aj I (aj (jN M) ?_))));dsimp only;refine aj I (aj (jN M) ?_);dsimp only;refine aj i (aj (jN U) ?_);dsimp only;refine aj (zi r z) (aj (zj r z _) (aj (zi z r) (aj (zj z r _) (aj (zi r r) (aj (zj r r _) ?_)))));rw[K,b9 h,<-CI,<-CI,<-CI,<-CI]
   rw[gp,aD (aa:¬((ps[a].aQ.length:X):Z)=2),bR,K,aA h,<-CI]
  dsimp only;rw[o.gd a g];simp only[bM];rw[N,sd g,cF (x:=(cV ps a:Z)+(ps[a].aQ.length:Z)) aa aa,Int.natCast_add]
 rintro _ rfl;dsimp only;rw[a7,o.q6,aP (aD (aa:¬((ps.length:Z)<(ps.length:Z))))];exact bu.2 bq
end
end
section
def jY (n a:X):ak6:=alb (a-1) (min n (a+2)-(a-1))
def pa (ps:bp aN) (n b c:X) (a:X×X):ak1:=cM (cM (gJ ps b a.1) (iV ps ps.length a.1 a.2)) (gJ ps c a.2)
def jX (n b:X):ak8:=(bK b).flatMap λa=>(jY n a).map λc=>(a,c)
def lO (ps:bp aN) (n a b:X):ak1:=lr ((jX n n).map (pa ps n a b))
def Lq (n a:X):jX n (a+1)=jX n a++(jY n a).map λb=>(a,b):=by unfold jX;rw[je,mn];simp
def GL (n:X):∀m,(jX n m).length<=3*m
 |0=>bg _
 |m+1=>by have:=GL n m;rw[Lq,hq,di];have:(jY n m).length<=3:=(by unfold jY;rw[C5];omega);omega
def aet {n:X} (c:b<(jY n a).length):(jY n a)[b]=a-1+b:=by simp[jY]
def MW (ps:bp aN) (a b:X):cN (gJ ps a b):=by
 unfold gJ;split
 ·exact tR 1
 split
 ·split
  ·exact fF _
  exact wE
 exact wE
def CK {E:X->X->ak1} (e:∀c d,cN (E c d)) (f:cN q):∀c d,cN (hn E a b q c d):=λc d=>by
 unfold hn;split
 ·exact f
 exact e c d
def CY (ps:bp aN):∀m a b,cN (iV ps m a b)
 |0=>λa b=>wE
 |m+1=>by
  rw[iV];cases ps[m]? with
  |none=>exact CY ps m
  |some d=>
   dsimp only;by_cases c:d.aQ.length=2
   ·rw[aB c];exact CK (CK (CK (CK (CY ps m) (fF _)) (fF _)) (fF _)) (fF _)
   rw[aA c];exact CK (CY ps m) (fF _)
section
variable {n:X} {ps:bp aN} {F:c3}
def aeG (m:hU n ps F) (p:n<=5):Bh (F,())=Y (((n:Z),(n:Z),aC (n*n) (λb=>aw (lO ps n (b %n) (b/n))),()),0,()):=by
 have K:=q3 p;obtain⟨E,_⟩:=m.small;unfold Bh;refine aj (Lu m) ?_;dsimp only;rw[aP af,a7,E,aP (aD (aa:¬((n:Z)>64)))];refine aj (aey m) (aj (Sy p) ?_);dsimp only;refine bQ.1 ?_;generalize L:(((0:Z),(0:Z),[],()):hf)=e;refine bF (P:=λg=>g=(e,((n:Z),(n:Z),aC (n*n) (λb=>aw (lO ps n (b %n) (b/n))),()),())) ?_ (by rintro _ rfl;exact bu.2 bq);refine bP n (λc h=>h=((c:Z),e,((n:Z),(n:Z),aC (n*n) (nN (λb=>aw (lO ps n (b %n) (b/n))) (c*n)),()),())) ?_ ?_ ?_
 ·rw[am8];rfl
 ·rintro c _ o rfl;dsimp only;rw[aS (aI (aa:(c:Z)<(n:Z))),a9 aa];refine bF (P:=λg=>g=(e,((n:Z),(n:Z),aC (n*n) (nN (λb=>aw (lO ps n (b %n) (b/n))) (c*n+n)),()),())) ?_ (by rintro _ rfl;rw[Nat.add_mul,anq];exact bu.2 bq);refine bP n (λd h=>h=((d:Z),e,((n:Z),(n:Z),aC (n*n) (nN (λb=>aw (lO ps n (b %n) (b/n))) (c*n+d)),()),())) rfl ?_ ?_
  ·rintro d _ k rfl;obtain⟨t,u⟩:=Bk (n:=n) (j:=c) k;dsimp only;rw[aS (aI (aa:(d:Z)<(n:Z))),show aO (d:Z)=((d+1:X):Z) from a9 aa];generalize A:((n:Z),(n:Z),aC (n*n) (nN (λb=>aw (lO ps n (b %n) (b/n))) (c*n+d)),())=i;refine bF (P:=λg=>g=(e,i,((jX n n).map (pa ps n d c)).map aw,())) ?_ ?_
   ·refine bP n (λa h=>h=((a:Z),e,i,((jX n a).map (pa ps n d c)).map aw,())) rfl ?_ ?_
    ·rintro a _ r rfl;have C:=GL n a;dsimp only;rw[aS (aI (aa:(a:Z)<(n:Z))),a9 aa];have v:(if 0>az ((a:Z)-1) then 0 else az ((a:Z)-1))=((a-1:X):Z):=by
      rw[cF aa aa];split<;>omega
     rw[v];have J:(jY n a).length=min n (a+2)-(a-1):=(by unfold jY;rw[C5]);refine bF (P:=λg=>g=(e,i,((jX n (a+1)).map (pa ps n d c)).map aw,())) ?_ (by rintro _ rfl;exact bu.2 bq);refine bP (jY n a).length (λb h=>h=(((a-1+b:X):Z),e,i,((jX n a++((jY n a).take b).map λf=>(a,f)).map (pa ps n d c)).map aw,())) ?_ ?_ ?_
     ·rw[xo,sL,oA];rfl
     ·rintro b _ l rfl;have s:a-1+b<n:=aa;have I:a-1+b<=a+1:=aa;have D:=aet l;dsimp only;refine bC (y:=.inl (e,i,((jX n a++((jY n a).take b).map λf=>(a,f)).map (pa ps n d c)).map aw,())) ?_ ?_
      ·rw[aI (aa:((a-1+b:X):Z)<(n:Z)),aS af,aI (aa:((a-1+b:X):Z)<=((a+1:X):Z)),bI]
      dsimp only;refine bC (LP k) (bC (fR (h0 r)) (bC (LP r) (bC (fR (h0 s)) ?_)));refine bC (kH (MW _ _ _) (CY _ _ _ _)) ?_;dsimp only;refine bC (LP o) (bC (fR (h0 s)) (bC (kH (kl _ _) (MW _ _ _)) ?_));dsimp only;rw[c9 (by simp;omega),bM,a9 aa];refine bu.2 ?_;show _=_;have w:(jX n a++((jY n a).take (b+1)).map λf=>(a,f))=(jX n a++((jY n a).take b).map λf=>(a,f))++[(a,a-1+b)]:=(by rw[mL l,amQ,D,alG];rfl);rw[w];simp only[amQ,aoj,List.map_nil];rfl
     rintro _ rfl;dsimp only;refine bC (y:=.inr (.inr (e,i,((jX n (a+1)).map (pa ps n d c)).map aw,()))) ?_ (bu.2 bq);rw[cm,<-Lq];by_cases H:a-1+(jY n a).length<n
     ·rw[aI (aa:((a-1+(jY n a).length:X):Z)<(n:Z)),aS af,aD (aa:¬((a-1+(jY n a).length:X):Z)<=((a+1:X):Z)),bR]
     rw[aD (aa:¬((a-1+(jY n a).length:X):Z)<(n:Z)),aP af]
    rintro _ rfl;dsimp only;rw[aP (aD (aa:¬((n:Z)<(n:Z))))];exact bu.2 bq
   rintro _ rfl;have C:=GL n n;dsimp only;refine bC (SD (λG B=>?_) (by simp;omega)) ?_
   ·obtain⟨M,_,rfl⟩:=e1.1 B;exact kl _ _
   dsimp only;have q:=Ds o k;rw[<-A];dsimp only;rw[Ms p o k];refine bC (eV (by rw[cU];exact q)) ?_;have x:aw (lr ((jX n n).map (pa ps n d c)))=(λb=>aw (lO ps n (b %n) (b/n))) (c*n+d):=(by show _=aw (lO ps n ((c*n+d) %n) ((c*n+d)/n));rw[t,u];rfl);rw[x,gV q,Ug];exact bu.2 bq
  rintro _ rfl;dsimp only;rw[aP (aD (aa:¬((n:Z)<(n:Z))))];exact bu.2 bq
 rintro _ rfl;dsimp only;rw[aP (aD (aa:¬((n:Z)<(n:Z))))];refine bu.2 ?_;show _=_;have z:aC (n*n) (nN (λb=>aw (lO ps n (b %n) (b/n))) (n*n))=aC (n*n) (λb=>aw (lO ps n (b %n) (b/n))):=c4 λb l=>(by unfold nN;rw[b9 l]);rw[z]
end
end
section
def cT (a:ak1):Rat:=((a.getD 0:Z):Rat)
def mK (a:X×X->Rat):ak8->Rat
 |[]=>0
 |x::b=>a x+mK a b
theorem Ti {b c:X×X->Rat}:∀{a:ak8},(∀x∈a,b x=c x)->mK b a=mK c a
 |[],_=>rfl
 |x::a,d=>by rw[mK,mK,d x ac,Ti λe f=>d e ae]
theorem Tk {b:X×X->Rat}:∀{a:ak8},(∀x∈a,b x=0)->mK b a=0
 |[],_=>rfl
 |x::a,c=>by rw[mK,c x ac,Tk λd e=>c d ae];grind
theorem Tj {c d:X×X->Rat} {b:X×X} {g:Rat}:∀{a:ak8},a.Nodup->b∈a->(∀y,y≠b->c y=d y)->c b=d b+g->mK c a=mK d a+g
 |[],_,i,_,_=>by grind
 |y::a,f,i,e,j=>by
  rw[lx] at f;rw[mK,mK];by_cases h:y=b
  ·grind [Ti]
  rw[e y h,Tj f.2 ae e j];grind
theorem Qw {n:X} (c:a<n):b∈jY n a↔a<=b+1/\b<n/\b<=a+1:=by grind [jY]
theorem KB {n:X} {b:X×X}:b∈jX n a↔b.1<a/\b.2∈jY n b.1:=by unfold jX;grind
theorem Sk (n:X):∀m,(jX n m).Nodup
 |0=>List.nodup_nil
 |m+1=>by rw[Lq];have b:(jY n m).Nodup:=(by grind [List.nodup_range',jY]);refine j3.2 ⟨Sk n m,oG.2 (b.imp λa g=>a ae),?_⟩;intro i f j c d;obtain⟨h,e,rfl⟩:=e1.1 c;simp_all [xq,KB,absurd]
theorem Cv {g:ak8} (i:g.Nodup) {E:X->X->ak1} (j:(a,b)∈g) (n:E a b=Y 0) (d:ak1) (e f:X->Rat):mK (λc=>e c.1*cT (hn E a b d c.1 c.2)*f c.2) g=mK (λc=>e c.1*cT (E c.1 c.2)*f c.2) g+e a*cT d*f b:=by
 refine Tj i j (λc k=>?_) ?_
 ·show e c.1*cT (hn E a b d c.1 c.2)*f c.2=e c.1*cT (E c.1 c.2)*f c.2;have:hn E a b d c.1 c.2=E c.1 c.2:=aA λh=>k (Prod.ext h.1 h.2);grind
 show e a*cT (hn E a b d a b)*f b=e a*cT (E a b)*f b+e a*cT d*f b;have l:hn E a b d a b=d:=aB ⟨bq,bq⟩;have m:cT (Y 0)=0:=rfl;grind
def kP (e:Z->Rat) (b c:X->Rat):bp aN->X->Rat
 |[],_=>0
 |q::ps,a=>(if q.aQ.length=2 then e (q.d.getD 0 0)*(b a*c a)+e (q.d.getD 1 0)*(b (a+1)*c a+b a*c (a+1))+e (q.d.getD 2 0)*(b (a+1)*c (a+1)) else e (q.d.getD 0 0)*(b a*c a))+kP e b c ps (a+q.aQ.length)
theorem Ia (b:Z->Rat) (c d:X->Rat) (e:aN):∀(ps:bp aN) (a:X),kP b c d (ps++[e]) a=kP b c d ps a+kP b c d [e] (a+(ps.flatMap aN.aQ).length)
 |[],a=>by show kP b c d [e] a=0+kP b c d [e] (a+0);grind
 |p::ps,a=>by show _+kP b c d (ps++[e]) (a+p.aQ.length)=(_+kP b c d ps (a+p.aQ.length))+_;rw[Ia b c d e ps,uS,hq,sM];grind
section
variable {n:X} {ps:bp aN}
theorem MG (e:hB n ps):∀m,m<=ps.length->∀a b,(cV ps m<=a\/cV ps m<=b)->iV ps m a b=Y 0
 |0=>λ_ a b _=>rfl
 |m+1=>by
  intro h a b f;have c:m<ps.length:=aa;have g:=sd c;have i:=(e.gd c).1;have j:=MG e m aa a b aa;rw[iV,bV c];dsimp only;by_cases d:ps[m].aQ.length=2
  ·rw[aB d];unfold hn;grind
  rw[aA d];unfold hn;grind
theorem MF (j:hB n ps) (k l:X->Rat):∀m,m<=ps.length->mK (λb=>k b.1*cT (iV ps m b.1 b.2)*l b.2) (jX n n)=kP (λr=>cT (a6 r)) k l (ps.take m) 0
 |0,_=>by refine Tk λb _=>?_;show k b.1*cT (Y 0)*l b.2=0;have v:cT (Y 0)=0:=rfl;grind
 |m+1,x=>by
  have c:m<ps.length:=aa;have u:=MF j k l m aa;have w:=j.wa c;have y:=(j.gd c).1;have p:=MG j m aa;have g:∀e f,e<n->f<n->e<=f+1->f<=e+1->(e,f)∈jX n n:=λe f o c s t=>KB.2 ⟨o,(Qw o).2 ⟨s,c,t⟩⟩;have h:=Sk n n;rw[mL c,Ia,<-u,nv,show((ps.take m).flatMap aN.aQ).length=cV ps m from rfl];have q:iV ps (m+1)=if ps[m].aQ.length=2 then hn (hn (hn (hn (iV ps m) (cV ps m) (cV ps m) (a6 (ps[m].d.getD 0 0))) (cV ps m+1) (cV ps m) (a6 (ps[m].d.getD 1 0))) (cV ps m) (cV ps m+1) (a6 (ps[m].d.getD 1 0))) (cV ps m+1) (cV ps m+1) (a6 (ps[m].d.getD 2 0))
   else hn (iV ps m) (cV ps m) (cV ps m) (a6 (ps[m].d.getD 0 0)):=by
   rw[iV,bh c]
  rw[q,kP,kP];generalize cV ps m=a at*;by_cases i:ps[m].aQ.length=2
  ·rw[aB i,aB i];rw[Cv h (g (a+1) (a+1) aa aa aa aa) (by simp_all [aA,hn]),Cv h (g a (a+1) aa aa aa aa) (by simp_all [aA,hn]),Cv h (g (a+1) a aa aa aa aa) (by simp_all [aA,hn]),Cv h (g a a aa aa aa aa) (p _ _ aa)];grind
  rw[aA i,aA i];rw[Cv h (g a a aa aa aa aa) (p _ _ aa)];grind
end
end
section
section
variable {σ ρ:Type} {f:σ->bA (σ⊕ρ)}
end
def KP:a6 0=Y 0:=by decide
end
abbrev nb:Z:=4607182418800017408
def agn:gK 2 2 [0,1,1] [1] [nb] where
 hr:=by decide
 hc:=by decide
 hi:=by decide
 hs:=by decide
 hv:=by decide
 hw:=λb a=>by rw[fH.1 a];exact⟨ab,ab⟩
def ago:gO 2 2 [0,1,1] [1] [nb] where
 len:=rfl
 first:=rfl
 mono:=λb e=>by have:b=0\/b=1:=aa;rcases this with rfl|rfl<;>decide
 last:=rfl
 val:=rfl
 rng:=λb a e c d=>by
  have:b=0\/b=1:=aa;rcases this with rfl|rfl
  ·change(0:Z)<=a at c;change(a:Z)<1 at d;have:a=0:=aa;subst this;exact⟨ab,ab⟩
  change(1:Z)<=a at c;change(a:Z)<1 at d;omega
 asc:=λb a e c d=>by
  have:b=0\/b=1:=aa;rcases this with rfl|rfl
  ·change(0:Z)<a at c;change(a:Z)<1 at d;omega
  change(1:Z)<a at c;change(a:Z)<1 at d;omega
def TM:fQ 2 2 [0,1,1] [1] [nb]=0:=by refine jI.2 ⟨ago,λa b=>?_⟩;have:a=0:=(by have:([nb]:ak7).length=1:=rfl;omega);subst this;decide
def L5:bp c5:=[(1,0,nb,())]
def TN:cZ [0,1,1] [1] [nb] 2=L5:=rfl
def TP:iR 2 (fE L5) [0,1]=Jt:=by decide
def zr:bp eE:=[(0,(2,([0,1],((-1:Z),()))))]
def Ha:gU Jt zr:=by
 refine⟨⟨λa b=>?_,bq⟩,λa b=>?_,λa b=>?_,λh c i l=>?_⟩
 ·have b:a<1:=b;obtain rfl:a=0:=aa;exact⟨_,bq,bq,ab,ab⟩
 ·have j:a<1:=b;obtain rfl:a=0:=aa;refine⟨(by decide:2<=2),λc _ g d=>?_⟩;have g:c<2:=g;have:c=0\/c=1:=aa;rcases this with rfl|rfl
  ·exact⟨λ_=>rfl,λd=>absurd (show 2<=0 from d) ab⟩
  exact⟨λ_=>rfl,λd=>absurd (show 2<=1 from d) ab⟩
 ·have j:a<1:=b;obtain rfl:a=0:=aa;exact .inl ⟨bq,bq⟩
 have k:fw Jt:=(by rw[<-TP];exact yE _ _ _);obtain⟨e,f⟩:=i.lt k;have e:h<2:=e;have f:c<2:=f;obtain rfl:h=0:=aa;obtain rfl:c=1:=aa;decide
abbrev G9:X->X->ak1:=hF L5 [0,1]
def SR:lS (a6 nb) 0=nb:=by rw[v1,Fv (a:=0) ab ab];decide
def SS:lS (a6 0) 0=0:=by rw[KP];rfl
def hm:aZ:=h6 G9 zr (λa=>([]:bp aZ).getD a hx) 0
def zt:hm.rows=[0,1]:=by decide
def TL:hm.full=2:=by decide
def L7:hm.bn 0 0=0:=SS
def TQ:hm.bn 0 1=nb:=SR
def L8:hm.bn 1 0=nb:=SR
def L9:hm.bn 1 1=0:=SS
def TO (a:X) (c:a=0\/a=1):hm.fin a:=by
 unfold aZ.fin;rw[zt];intro d b;simp only[gn,anr,or_false] at b;rcases c with rfl|rfl<;>rcases b with rfl|rfl
 ·rw[L7];decide
 ·rw[L8];decide
 ·rw[TQ];decide
 rw[L9];decide
def agl:hm.choose=Y [0,1]:=by
 obtain⟨a,l⟩:∃a:X,a=65536:=⟨_,bq⟩;have g:a6 nb=Y (1*2^a):=(by rw[l];exact v1);have c:(0:Z)<2^a:=mT ab;have d:hm.av 0 0=0:=(by unfold anu;rw[L7,KP];rfl);have j:hm.av 1 1=0:=(by unfold anu;rw[L9,KP];rfl);have i:hm.av 1 0=2^a:=(by unfold anu;rw[L8,g,sP,ane];exact aqC (fu c));have h:hm.av 0 1=2^a:=(by unfold anu;rw[TQ,g,sP,ane];exact aqC (fu c));have e:hm.fj 0=(2^a,Y 1):=(by unfold aZ.fj;rw[zt];show(hm.av 1 0,Y 1)=_;rw[i]);have k:hm.fj 1=(2^a,Y 0):=(by unfold aZ.fj;rw[zt];show(hm.av 0 1,Y 0)=_;rw[h]);unfold aZ.choose;have f:hm.rows.take hm.full=[0,1]:=(by rw[zt,TL];rfl);rw[f,amT,aA (cw (TO 0 (.inl bq))),aA (by
  rw[e,d];intro b;rcases b with b|b
  ·dsimp only at b;omega
  dsimp only at b;omega)]
 rw[e];dsimp only;rw[ck (cw (by rw[f];decide)),ck (cw (TO 1 (.inr bq))),ck (by
  rw[d,oz,anc];have:=p7 c c;omega),aA (by
  rw[k,j];dsimp only;omega)]
def Xw (b:aZ) (a:ak6):(b.elim a).rows=b.rows.filter λc=>bz (c∉a):=rfl
def aeo (b:aZ) (a:ak6):(b.de a).rows=b.rows.filter λc=>bz (c∉a):=rfl
def aen (c:aZ) (a b:X):(c.de [a,b]).d=[c.bn a a,c.bn b a,c.bn b b]:=rfl
def agm:alf 3 hm=Y (hm.elim [0,1],[hm.de [0,1]]):=by
 have a:([0,1]:ak6).filter (λc=>bz (c∉[0,1]))=[]:=ab;have e:(hm.elim [0,1]).rows=[]:=(by rw[Xw,zt,a]);rw[uv agl ab,aB (by
  intro f _ c b;rw[aeo,zt,a] at b;cases b)]
 have d:(hm.elim [0,1]).choose=Y []:=(by unfold aZ.choose;rw[e,List.take_nil,amT]);rw[zk d];rfl
def L6:hO G9 zr 1=Y ([hm.elim [0,1]],[hm.de [0,1]]):=by have b:h6 G9 zr (λa=>([]:bp aZ).getD a hx) 0=hm:=rfl;rw[hO,hO,bM];dsimp only;rw[b,TL,agm,amP,aoY,aoY]
def X2 {o:ak7} {b:bp aZ} (d:n.length=a) (c:hO g n a=Y (b,e)):kf g o n=(n3 o e (kx b:Z),0,()):=by subst d;unfold kf;rw[c]
section
def O3 (e:∀c∈d,cH c≠2047) (b:X):cH (d.getD b 0)≠2047:=by
 rcases cY b d.length with a|a
 ·rw[jL a];exact e _ (cK a)
 rw[k2,pn a];show cH 0≠2047;decide
def Lj {D:X} (a:D=65536):iv 1=Y (1*2^D)/\a6 nb=Y (1*2^D):=⟨J4 (n:=1) ab a,by rw[a];exact v1⟩
def bf.e9 {D d:X} {l:eA} (e:∀c∈l,bf D d b a c):k8 l=bt/\ja (D-d) (hT l)/\(hT l).natAbs<=l.length*(a*2^(D+b)):=by
 induction l with
 |nil=>exact⟨bq,ja.zero _,by simp[hT]⟩
 |cons c l j=>
  obtain⟨i1,i,o⟩:=j λc h=>e c (ht _ h);obtain⟨k,rfl,g,n⟩:=e c (mU ..);refine⟨by simp[k8,i1],g.add i,?_⟩;show(k+hT l).natAbs<=(l.length+1)*(a*2^(D+b));generalize a*2^(D+b)=f at*;rw[kL,kM];generalize l.length*f=m at*;omega
theorem T2 {T:X×X->ak1} {f:X×X->Rat} {s:Rat}:∀{l:ak8},(∀x∈l,cT (T x)*s=f x)->((hT (l.map T):Z):Rat)*s=mK f l
 |[],_=>by show((0:Z):Rat)*s=0;rw[show((0:Z):Rat)=0 from rfl];grind
 |x::l,a=>by have d:=T2 (T:=T) (f:=f) (s:=s) (l:=l) λe c=>a e (ht _ c);have b:=a x (mU ..);show(((T x).getD 0+hT (l.map T):Z):Rat)*s=f x+mK f l;rw[aqD,<-d,<-b];unfold cT;grind
def afL (a:ak1):(0<kW a↔0<a.getD 0)/\(kW a<0↔a.getD 0<0):=by
 unfold kW gI;split
 ·omega
 split<;>omega
def Xc {D:X} (d:D=65536) {a b c:Z} (p:cH a≠2047) (i:cH b≠2047) (q:cH c≠2047):∃j f e g:Z,jT [a,b,c]=Y j/\a6 a=Y f/\a6 b=Y e/\a6 c=Y g/\j*2^D=f*g-e*e:=by
 obtain⟨s,f,g,u,ax,l,m,n⟩:=(ali d p).mul d (ali d q) ab ab ab;obtain⟨t,e,k,v,h,f2,o,f4⟩:=(ali d i).mul d (ali d i) ab ab ab;obtain rfl:e=k:=gy (h.symm.trans f2);have r:=(ant d ab s t.neg ab).2;refine⟨u-v,f,e,g,?_,ax,h,l,?_⟩
 ·show cQ (cM (a6 a) (a6 c)) (dd (cM (a6 b) (a6 b)))=_;rw[r,m,o];rfl
 rw[Int.sub_mul,n,f4]
theorem aeL {b c a:Rat} (f:0<a) (h:b*(a*a)=c*(a*a)):b=c:=by
 have d:=Rat.mul_pos f f;have g:(b-c)*(a*a)=0:=ae;rcases Rat.mul_eq_zero.1 g with e|e
 ·grind
 rw[e] at d;exact absurd d ab
def aeM (a:X):(0:Rat)<(((2:Z)^a:Z):Rat):=Rat.intCast_pos.2 (mT ab)
section
variable {n D:X} {ps:bp aN} {F:c3}
def C7 (b:D=65536) (c:hU n ps F) {i:X} (k:a<n):bf D 1074 1024 1 (gJ ps i a):=by
 unfold gJ;by_cases d:i=a
 ·rw[aB d,(Lj b).1,<-(Lj b).2];exact ali b ab
 rw[ck d];obtain⟨m,o,e,l,rfl⟩:=c.ok.eL k;obtain⟨f,h,g⟩:=c.ok.xV e l;rw[g];dsimp only;split
 ·rename_i j;exact ali b ((c.ok.de _ (cK e)).fin f h _ j)
 exact apg
def CJ {E:X->X->ak1} (e:∀c d,bf D 1074 1024 1 (E c d)) (f:bf D 1074 1024 1 q):∀c d,bf D 1074 1024 1 (hn E a b q c d):=λc d=>by
 unfold hn;split
 ·exact f
 exact e c d
def CZ (c:D=65536) (b:hU n ps F):∀m f g,bf D 1074 1024 1 (iV ps m f g)
 |0=>λf g=>apg
 |m+1=>by
  rw[iV];by_cases i:m<ps.length
  ·rw[bV i];dsimp only;have j:=(b.ok.k _ (b1 i)).Fj;have a:∀e,bf D 1074 1024 1 (a6 (ps[m].d.getD e 0)):=λe=>ali c (O3 j e);by_cases h:ps[m].aQ.length=2
   ·rw[aB h];exact CJ (CJ (CJ (CJ (CZ c b m) (a 0)) (a 1)) (a 1)) (a 2)
   rw[aA h];exact CJ (CZ c b m) (a 0)
  rw[pn aa];exact CZ c b m
theorem Sl (e:D=65536) {d:Rat} (s:d=(((2:Z)^D:Z):Rat)) (h:hU n ps F) (S:n<=5) (Q:a<n) (R:b<n):∃g:Z,lO ps n a b=Y g/\ja (D-3222) g/\g.natAbs<=15*2^(D+3072)/\(g:Rat)*(d*d)=kP (λC=>cT (a6 C)) (λk=>cT (gJ ps a k)) (λm=>cT (gJ ps b m)) ps 0:=by
 have t:∀c∈jX n n,bf D 3222 3072 1 (pa ps n a b c)/\cT (pa ps n a b c)*(d*d)=cT (gJ ps a c.1)*cT (iV ps ps.length c.1 c.2)*cT (gJ ps b c.2):=λc f=>(by obtain⟨u,j⟩:=KB.1 f;have j:=((Qw u).1 j).2.1;obtain⟨J,p,q,o,ax,z,A,B⟩:=(C7 e h (i:=a) u).mul e (CZ e h ps.length c.1 c.2) ab ab ab;obtain⟨K,y,r,x,E,f2,G,f4⟩:=J.mul e (C7 e h (i:=b) j) ab ab ab;refine⟨K,?_⟩;obtain rfl:o=y:=gy (A.symm.trans E);have L:(o:Rat)*d=(p:Rat)*(q:Rat):=(by rw[s,<-u3,<-u3,B]);have M:(x:Rat)*d=(o:Rat)*(r:Rat):=(by rw[s,<-u3,<-u3,f4]);show cT (cM (cM (gJ ps a c.1) (iV ps ps.length c.1 c.2)) (gJ ps b c.2))*(d*d)=_;rw[G,ax,z,f2];show(x:Rat)*(d*d)=(p:Rat)*(q:Rat)*(r:Rat);rw[<-L,<-aqE,M];grind);have I:(jX n n).length<=15:=dk (GL n n) aa;obtain⟨N,O,v⟩:=bf.e9 (l:=(jX n n).map (pa ps n a b)) λP H=>(by obtain⟨c,f,rfl⟩:=e1.1 H;exact(t c f).1);rw[di] at v;have w:(hT ((jX n n).map (pa ps n a b))).natAbs<=15*2^(D+3072):=dk v (by rw[kM];exact iX _ I);refine⟨_,?_,O,w,?_⟩
 ·unfold lO lr;rw[aB N];unfold oS;rw[aB (amh e ab ab w)]
 rw[T2 λc f=>(t c f).2];exact(MF h.ok (λk=>cT (gJ ps a k)) (λm=>cT (gJ ps b m)) ps.length (bg _)).trans (by rw[gC])
end
def X0 {A:X->X->ak1} (g:∀m o,cN (A m o)) {a:bp eE} {n:X} (e:gU h a) (c:h.length=n) (k:n<=12) (l:e8 d n):kf A d a=(km,233,())\/∃ps f,kf A d a=(n3 d ps ((f:X):Z),0,())/\hU n ps (n3 d ps ((f:X):Z)):=by
 cases b:hO A a a.length with
 |none=>exact .inl (by unfold kf;rw[b])
 |some r=>
  obtain⟨j,ps⟩:=r;obtain⟨i1,i⟩:=qH g e c (bg _) b;obtain⟨p,q⟩:=Jx g e c (bg _) b;have:hB n ps:=⟨i.all e c,i.de,p,q⟩;exact .inr ⟨ps,kx j,by unfold kf;rw[b],this.O8 k l _⟩
def Wa:EJ ()=Y (bt,()):=by obtain⟨D,k⟩:∃D:X,D=65536:=⟨_,bq⟩;have i:∀m p,cN (G9 m p):=λm p=>fF _;obtain⟨_,j⟩:=qH i Ha bq (cc _) L6;obtain⟨B,C⟩:=Jx i Ha bq (cc _) L6;have t:hU 2 [hm.de [0,1]] (n3 [0,1] [hm.de [0,1]] (kx [hm.elim [0,1]]:Z)):=hB.O8 ⟨j.all Ha bq,j.de,B,C⟩ ab O1 _;have e:=MK (n:=2) (kJ.BX ab TM) agn TM O1 (l:=zr) (by rw[TN,TP];exact Ha);rw[TN,X2 (o:=[0,1]) (show zr.length=1 from rfl) L6] at e;have x:ia [hm.de [0,1]]=(1,0,1):=(by have v:(hm.de [0,1]).d=[0,nb,0]:=(by rw[aen,L7,L8,L9]);obtain⟨q,E,G,H,ax,g,h,I,r⟩:=Xc k (a:=0) (b:=nb) (c:=0) ab ab ab;rw[KQ] at g;rw[(Lj k).2] at h;cases g;cases h;have f:(0:Z)<2^D:=Int.pow_pos ab;have A:q<0:=(by refine Int.not_le.1 λs=>?_;have e:=am9 s (aln f);have J:=Int.mul_pos f f;rw[r,ane,Int.zero_mul] at e;omega);have w:kW (jT (hm.de [0,1]).d)<0:=(by rw[v,ax];exact(afL (Y q)).2.2 A);have u:nh (hm.de [0,1])=(1,0,1):=b9 ⟨bq,w⟩;unfold ia;rw[aoj,aoj,aoj,u];rfl);have z:(n3 [0,1] [hm.de [0,1]] (kx [hm.elim [0,1]]:Z)).2.1=[2]:=rfl;generalize n3 [0,1] [hm.de [0,1]] (kx [hm.elim [0,1]]:Z)=F at*;unfold EJ;refine aj (y:=((2,(2,([0,1,1],([1],([nb],()))))),())) rfl ?_;dsimp only;refine aj e ?_;dsimp only;refine aj (Zs t) ?_;rw[x];dsimp only;rw[aS af,aS af,z];refine aj (C2 _ _ ab) ?_;rfl
end
section
abbrev zW:=bA (bp (Z×fV)×X)
theorem bf.ok {A d:X} (f:A=65536) (i:d<=60000) (h:b<1048576) (e:bf A a d b q):cN q:=λj c=>by obtain⟨k,a,_,g⟩:=e;rw[a] at c;cases c;exact amh f i h g
def rq (n:X) (Xa:X->ak1) (x:zW):Prop:=∀a,a<n->hk x (a:Z)=Y (aw (Xa a))\/(hk x (a:Z)=bv/\Xa a=Y 0)
section
variable {n A:X} {ps:bp aN} {F:c3}
def Qm (m:hU n ps F) (z:a<n):∃x,x9 (F,(a:Z),())=Y (x,())/\rq n (λb=>gJ ps b a) x:=by
 obtain⟨t,i,d,f⟩:=m.N2 z;have H:=f.le;have G:=m.o5;suffices w:ah (x9 (F,(a:Z),())) λs=>rq n (λb=>gJ ps b a) s.1 by obtain⟨⟨x,_⟩,v,q⟩:=w;exact⟨x,v,q⟩
 unfold x9;refine bC (vS ab ab) ?_;dsimp only;refine bC (y:=Y (lj [] (a:Z) (aw (iv 1)),1)) rfl ?_;refine bC f.LU ?_;refine bF (P:=λs=>rq n (λb=>gJ ps b a) s.1) ?_ (by rintro⟨x,_⟩ q;exact bu.2 q);refine bP d.length (λc C=>∃h r,C=(((i+c:X):Z),Y (h,r),())/\∀b,b<n->im h (b:Z)=if b=a then Y (aw (iv 1)) else if(ps.flatMap aN.aQ).getD b 0∈d.take c then Y (aw (a6 (t.2 ((ps.flatMap aN.aQ).getD b 0)))) else bv) ⟨_,_,bq,λb k=>?_⟩ ?_ ?_
 ·rw[Ga];by_cases e:b=a
  ·rw[aB aa,aB e]
  rw[aA aa,aA e,xo,aA ac];rfl
 ·rintro c _ o ⟨h,r,rfl,p⟩;obtain⟨D,E⟩:=f.iG c o;obtain⟨I,J,B,aU,K⟩:=f.row d[c] ((f.mem _).1 (b1 o));dsimp only;rw[show aO (a:Z)=((a+1:X):Z) from a9 aa];refine bC f.s1 ?_;rw[aS (aI (aa:((i+c:X):Z)<((i+d.length:X):Z)))];refine bC D (bC E (bC (qT aU) ?_));dsimp only;rw[show aO ((i+c:X):Z)=((i+c+1:X):Z) from a9 aa];refine bC (y:=Y (lj h ((ps.flatMap aN.aQ).idxOf d[c]:Z) (aw (a6 (t.2 d[c]))),_)) rfl ?_;refine bu.2 ⟨_,_,bq,λb k=>?_⟩;rw[Ga,p b k];by_cases e:b=(ps.flatMap aN.aQ).idxOf d[c]
  ·have ax:=m.ok.getD B;rw[<-e] at ax;have A:d[c]∈d.take (c+1):=by
    rw[mL o];exact lw _ (fH.2 bq)
   rw[aB aa,aA aa,ax,aB A]
  rw[aA aa];by_cases g:b=a
  ·rw[aB g,aB g]
  rw[aA g,aA g];have u:(ps.flatMap aN.aQ).getD b 0∈d.take (c+1)↔(ps.flatMap aN.aQ).getD b 0∈d.take c:=(by rw[mL o,hM,fH];refine⟨λj=>j.elim (λa=>a) λa=>absurd ?_ e,.inl⟩;rw[<-a,m.ok.idx k]);by_cases l:(ps.flatMap aN.aQ).getD b 0∈d.take c
  ·rw[aB l,aB (u.2 l)]
  rw[aA l,aA (λj=>l (u.1 j))]
 rintro _ ⟨h,r,rfl,p⟩;dsimp only;rw[show aO (a:Z)=((a+1:X):Z) from a9 aa];refine bC f.s1 ?_;rw[aP (aD (aa:¬((i+d.length:X):Z)<((i+d.length:X):Z)))];refine bu.2 λb k=>?_;show im h (b:Z)=Y (aw (gJ ps b a))\/(im h (b:Z)=bv/\gJ ps b a=Y 0);rw[p b k,cm];unfold gJ;by_cases e:b=a
 ·rw[aB e,aB e];exact .inl bq
 rw[ck e,ck e,f.cs];dsimp only;by_cases g:(ps.flatMap aN.aQ).getD b 0∈d
 ·rw[aB g,aB ((f.mem _).1 g)];exact .inl bq
 rw[aA g,aA (λj=>g ((f.mem _).2 j))];exact .inr ⟨bq,bq⟩
end
section
variable {n:X} {x y:zW} {d:ak1} {Xa Ya:X->ak1} {T:X->eA}
def iJ (n:X) (x y:zW) (d:ak1) (Xa Ya:X->ak1) (T:X->eA) (b c a:X):eA:=
 if(a %n<b\/(a %n=b/\a/n<c))/\((hk x ((a %n:X):Z)).isSome&&(hk y ((a/n:X):Z)).isSome)=bt then T a++[cM (cM (Xa (a %n)) d) (Ya (a/n))] else T a
def agB (b c a:X):(iJ n x y d Xa Ya T b c a).length<=(T a).length+1:=by
 unfold iJ;split
 ·rw[hq,nr];omega
 omega
def adW (C:n<=5) (M:rq n Xa x) (N:rq n Ya y) (J:cN d) (H:∀b,b<n->cN (Xa b)) (I:∀b,b<n->cN (Ya b)) (G:∀a,a<n*n->(T a).length<=1000):tk (x,y,aw d,Y (n:Z),aC (n*n) (λa=>(T a).map aw),())=Y (aC (n*n) (λa=>(iJ n x y d Xa Ya T n 0 a).map aw),()):=by
 have am:=q3 C;refine bQ.1 ?_;unfold tk;dsimp only;rw[bM];refine bF (P:=λs=>s=(aC (n*n) (λa=>(iJ n x y d Xa Ya T n 0 a).map aw),())) ?_ (by rintro _ rfl;exact bu.2 bq);refine bP n (λb t=>t=((b:Z),aC (n*n) (λa=>(iJ n x y d Xa Ya T b 0 a).map aw),())) ?_ ?_ ?_
 ·have:(λa=>(iJ n x y d Xa Ya T 0 0 a).map aw)=λa=>(T a).map aw:=by
   funext a;unfold iJ;rw[aA (λo=>o.1.elim (zX _) λf=>zX _ f.2)]
  rw[this];rfl
 ·rintro b _ h rfl;dsimp only;rw[aS (aI (aa:(b:Z)<(n:Z))),bM,show aO (b:Z)=((b+1:X):Z) from a9 aa];refine bF (P:=λs=>s=(aC (n*n) (λa=>(iJ n x y d Xa Ya T (b+1) 0 a).map aw),())) ?_ (by rintro _ rfl;exact bu.2 bq);refine bP n (λc t=>t=((c:Z),aC (n*n) (λa=>(iJ n x y d Xa Ya T b c a).map aw),())) rfl ?_ ?_
  ·rintro c _ i rfl;obtain⟨w,z⟩:=Bk (n:=n) (j:=c) h;have k:=Ds i h;have U:=G _ k;have S:=agB (n:=n) (x:=x) (y:=y) (d:=d) (Xa:=Xa) (Ya:=Ya) (T:=T) b c (c*n+b);dsimp only;rw[aS (aI (aa:(c:Z)<(n:Z))),show aO (c:Z)=((c+1:X):Z) from a9 aa];refine bC (y:=(aC (n*n) (λa=>(iJ n x y d Xa Ya T b (c+1) a).map aw),())) ?_ (bu.2 bq);have D:∀a,a<n*n->a≠c*n+b->iJ n x y d Xa Ya T b (c+1) a=iJ n x y d Xa Ya T b c a:=λa g L=>by
    have ad:0<n:=aa;have K:a/n*n+a %n=a:=aph a n;unfold iJ;have m:(a %n<b\/(a %n=b/\a/n<c+1))↔(a %n<b\/(a %n=b/\a/n<c)):=by
     constructor
     ·rintro(f|⟨l,r⟩)
      ·exact .inl f
      refine .inr ⟨l,Nat.lt_of_le_of_ne (Nat.le_of_lt_succ r) λO=>L ?_⟩;rw[<-K,l,O]
     rintro(f|⟨l,r⟩)
     ·exact .inl f
     exact .inr ⟨l,Nat.lt_succ_of_lt r⟩
    simp only[m]
   have A:iJ n x y d Xa Ya T b c (c*n+b)=T (c*n+b):=(by unfold iJ;rw[w,z,aA aa]);have B:iJ n x y d Xa Ya T b (c+1) (c*n+b)=if((hk x (b:Z)).isSome&&(hk y (c:Z)).isSome)=bt then T (c*n+b)++[cM (cM (Xa b) d) (Ya c)] else T (c*n+b):=by
    unfold iJ;rw[w,z];by_cases e:((hk x (b:Z)).isSome&&(hk y (c:Z)).isSome)=bt
    ·rw[aB ⟨.inr ⟨bq,aa⟩,e⟩,aB e]
    rw[aA (λo=>e o.2),aA e]
   refine aj (y:=((hk x (b:Z)).isSome&&(hk y (c:Z)).isSome,aC (n*n) (λa=>(iJ n x y d Xa Ya T b c a).map aw),(hk x (b:Z)).getD (br,(br,[],()),0,()),(hk y (c:Z)).getD (br,(br,[],()),0,()),())) ?_ ?_
   ·cases(hk x (b:Z)).isSome
    ·rfl
    rfl
   dsimp only;cases q:((hk x (b:Z)).isSome&&(hk y (c:Z)).isSome) with
   |false=>
    rw[bR];have:aC (n*n) (λa=>(iJ n x y d Xa Ya T b (c+1) a).map aw)=aC (n*n) (λa=>(iJ n x y d Xa Ya T b c a).map aw):=c4 λa g=>by
     by_cases e:a=c*n+b
     ·rw[e,A,B,q,aA ab]
     rw[D a g e]
    rw[this]
   |true=>
    obtain⟨u,v⟩:=Bool.and_eq_true_iff.1 q;have E:hk x (b:Z)=Y (aw (Xa b)):=(M b h).resolve_right λf=>(by rw[f.1] at u;cases u);have F:hk y (c:Z)=Y (aw (Ya c)):=(N c i).resolve_right λf=>(by rw[f.1] at v;cases v);have p:(aC (n*n) (λa=>(iJ n x y d Xa Ya T b c a).map aw))[c*n+b]?=Y ((T (c*n+b)).map aw):=(by rw[h0 k,A]);rw[bI,bM,bM,E,F,Ms C i h];refine aj (eV (by rw[cU];exact k)) (aj (oW (H b h) J) (aj (oW (kl _ _) (I c i)) ?_));dsimp only;refine aj (gh p) ?_;rw[c9 (by rw[b6,amx];omega),bM];refine aj (eV (by rw[cU];exact k)) ?_;rw[aS ac];refine aj (gh p) (aj (gh p) ?_);have:(aC (n*n) (λa=>(iJ n x y d Xa Ya T b c a).map aw)).set (c*n+b) ((T (c*n+b)).map aw++[aw (cM (cM (Xa b) d) (Ya c))])=aC (n*n) (λa=>(iJ n x y d Xa Ya T b (c+1) a).map aw):=by
     rw[ha];refine c4 λa g=>?_;by_cases e:a=c*n+b
     ·subst e;rw[gA,B,q,aB bq,iK];rfl
     rw[gT _ _ e,D a g e]
    rw[this]
  rintro _ rfl;dsimp only;rw[aP (aD (aa:¬((n:Z)<(n:Z))))];have:aC (n*n) (λa=>(iJ n x y d Xa Ya T b n a).map aw)=aC (n*n) (λa=>(iJ n x y d Xa Ya T (b+1) 0 a).map aw):=c4 λa g=>(by have V:a/n<n:=aok g;have m:(a %n<b\/(a %n=b/\a/n<n))↔(a %n<b+1\/(a %n=b+1/\a/n<0)):=(by generalize a %n=Q;generalize a/n=R at*;omega);unfold iJ;simp only[m]);rw[this];exact bu.2 bq
 rintro _ rfl;dsimp only;rw[aP (aD (aa:¬((n:Z)<(n:Z))))];exact bu.2 bq
end
section
variable {n A:X} {ps:bp aN} {F:c3} {P:Rat}
theorem aem (g:A=65536) (h:P=(((2:Z)^A:Z):Rat)) {d a:ak1} (p:bf A 1074 1024 1 q) (s:bf A 1074 1024 1 d) (r:bf A 1074 1024 1 a):bf A 3222 3072 1 (cM (cM q d) a)/\cT (cM (cM q d) a)*(P*P)=cT q*cT d*cT a:=by obtain⟨t,c,e,b,ax,k,l,m⟩:=p.mul g s ab ab ab;obtain⟨u,j,f,i,n,f2,o,f4⟩:=t.mul g r ab ab ab;refine⟨u,?_⟩;obtain rfl:b=j:=gy (l.symm.trans n);have v:(b:Rat)*P=(c:Rat)*(e:Rat):=(by rw[h,<-u3,<-u3,m]);have w:(i:Rat)*P=(b:Rat)*(f:Rat):=(by rw[h,<-u3,<-u3,f4]);rw[o,ax,k,f2];show(i:Rat)*(P*P)=(c:Rat)*(e:Rat)*(f:Rat);rw[<-v,<-aqE,w];grind
def py (A:X) (P b:Rat) (c:X) (a:eA):Prop:=a.length<=c/\(∀d∈a,bf A 3222 3072 1 d)/\((hT a:Z):Rat)*(P*P)=b
theorem py.next (m:A=65536) (o:P=(((2:Z)^A:Z):Rat)) {i:Rat} {c e:eA} {d b:ak1} (l:py A P i a c) (p:bf A 1074 1024 1 q) (s:bf A 1074 1024 1 d) (r:bf A 1074 1024 1 b) (n:e=c++[cM (cM q d) b]\/(e=c/\(q=Y 0\/b=Y 0))):py A P (i+cT q*cT d*cT b) (a+1) e:=by
 obtain⟨x,j,g⟩:=l;rcases n with rfl|⟨rfl,u⟩
 ·obtain⟨v,w⟩:=aem m o p s r;refine⟨by rw[hq,nr];omega,λf t=>?_,?_⟩
  ·rcases hM.1 t with h|h
   ·exact j f h
   rw[fH.1 h];exact v
  rw[T1];have f:hT [cM (cM q d) b]=(cM (cM q d) b).getD 0:=(by show _+(0:Z)=_;omega);rw[f,aqD,<-g,<-w];unfold cT;grind
 refine⟨aa,j,?_⟩;have k:cT (Y 0)=0:=rfl;rcases u with rfl|rfl
 ·rw[g,k];grind
 rw[g,k];grind
def agA {x y:zW} {d:ak1} {Xa Ya:X->ak1} {T:X->eA} (f:b<n) (k:a<n) (l:rq n Xa x) (m:rq n Ya y):iJ n x y d Xa Ya T n 0 (a*n+b)=T (a*n+b)++[cM (cM (Xa b) d) (Ya a)]\/(iJ n x y d Xa Ya T n 0 (a*n+b)=T (a*n+b)/\(Xa b=Y 0\/Ya a=Y 0)):=by
 obtain⟨g,h⟩:=Bk (n:=n) (j:=a) f;unfold iJ;rw[g,h];by_cases e:((hk x (b:Z)).isSome&&(hk y (a:Z)).isSome)=bt
 ·rw[aB ⟨.inl f,e⟩];exact .inl bq
 rw[aA (λi=>e i.2)];refine .inr ⟨bq,?_⟩;rcases l b f with ax|⟨_,ax⟩
 ·rcases m a k with c|⟨_,c⟩
  ·exact absurd (by rw[ax,c];rfl) e
  exact .inr c
 exact .inl ax
theorem py.len {S:Rat} {T:X->eA} (h:∀c d,c<n->d<n->py A P (m c d) a (T (d*n+c))) (i:a<=1000):∀b,b<n*n->(T b).length<=1000:=λb f=>by have j:0<n:=api λg=>(by rw[g] at f;omega);have e:=h (b %n) (b/n) (amm _ j) (aok f);rw[aph b n] at e;exact dk e.1 i
def GG (f:A=65536) (r:P=(((2:Z)^A:Z):Rat)) (t:n<=5) {x y:zW} {d:ak1} {Xa Ya:X->ak1} (p:rq n Xa x) (q:rq n Ya y) (o:bf A 1074 1024 1 d) (k:∀b,b<n->bf A 1074 1024 1 (Xa b)) (l:∀b,b<n->bf A 1074 1024 1 (Ya b)) {T:X->eA} (j:∀b c,b<n->c<n->py A P (m b c) a (T (c*n+b))) (s:a<=1000):∃i:X->eA,tk (x,y,aw d,Y (n:Z),aC (n*n) (λh=>(T h).map aw),())=Y (aC (n*n) (λh=>(i h).map aw),())/\∀b c,b<n->c<n->py A P (m b c+cT (Xa b)*cT d*cT (Ya c)) (a+1) (i (c*n+b)):=
 ⟨_,adW t p q (o.ok f ab ab) (λb e=>(k b e).ok f ab ab) (λb e=>(l b e).ok f ab ab) (py.len (S:=0) j s),λb c e g=>(j b c e g).next f r (k b e) o (l c g) (agA e g p q)⟩
theorem Zr (f:hU n ps F) (o:n<=5):AG (F,())=Y (((n:Z),(n:Z),aC (n*n) (λb=>aw (lO ps n (b %n) (b/n))),()),0,()):=by
 obtain⟨A,j⟩:∃A:X,A=65536:=⟨_,bq⟩;obtain⟨P,p⟩:∃P:Rat,P=(((2:Z)^A:Z):Rat):=⟨_,bq⟩;have av:0<P:=(by rw[p];exact aeM A);have d6:=q3 o;obtain⟨ce,_,_,d8,_⟩:=f.small;unfold AG;refine aj (F4 f) ?_;dsimp only;rw[aP af,a7,ce,aP (aD (aa:¬((n:Z)>64))),Uq o];refine aj (hP aa) (aj (Sf f) ?_);dsimp only;refine aj (Jc f) ?_;dsimp only;refine bQ.1 ?_;generalize d7:(((0:Z),((0:Z),(([]:bp fV),()))):hf)=t;refine bF (P:=λs=>∃T:X->eA,s=(t,(n:Z),aC (n*n) (λb=>(T b).map aw),())/\∀a e,a<n->e<n->py A P (kP (λg=>cT (a6 g)) (λh=>cT (gJ ps a h)) (λi=>cT (gJ ps e i)) ps 0) (4*ps.length) (T (e*n+a))) ?_ ?_
 ·refine bP ps.length (λc H=>∃T:X->eA,H=((c:Z),t,(n:Z),aC (n*n) (λb=>(T b).map aw),ps.map jm,())/\∀a e,a<n->e<n->py A P (kP (λg=>cT (a6 g)) (λh=>cT (gJ ps a h)) (λi=>cT (gJ ps e i)) (ps.take c) 0) (4*c) (T (e*n+a))) ?_ ?_ ?_
  ·refine⟨λ_=>[],?_,λa e _ _=>⟨dj _,λd l=>(by cases l),?_⟩⟩
   ·rw[iF];rfl
   show((0:Z):Rat)*(P*P)=0;rw[show((0:Z):Rat)=0 from rfl];grind
  ·rintro c _ m ⟨T,rfl,q⟩;have d5:=f.ok.wa m;obtain⟨C,ek,el⟩:=f.ok.gd m;have a3:=(f.ok.k _ (cK m)).Fj;have l:∀a,bf A 1074 1024 1 (a6 (ps[c].d.getD a 0)):=λa=>ali j (O3 a3 a);have w:∀a,a<ps[c].d.length->aq (jm ps[c]) (a:Z)=Y (aw (a6 (ps[c].d.getD a 0))):=λa r=>by
    unfold jm;rw[eP (by rw[di];exact r),oE,jL r]
   have a4:ar (jm ps[c])=(ps[c].d.length:Z):=(by unfold jm;rw[a7,di]);have M:cV ps c<n:=aa;obtain⟨x,d1,z⟩:=Qm f M;have u:∀a,a<n->bf A 1074 1024 1 (gJ ps a (cV ps c)):=λa _=>C7 j f M;obtain⟨V,ci,S⟩:=GG j p o z z (l 0) u u q aa;have O:∀a e,kP (λg=>cT (a6 g)) (λh=>cT (gJ ps a h)) (λi=>cT (gJ ps e i)) (ps.take (c+1)) 0=kP (λg=>cT (a6 g)) (λh=>cT (gJ ps a h)) (λi=>cT (gJ ps e i)) (ps.take c) 0+
    kP (λg=>cT (a6 g)) (λh=>cT (gJ ps a h)) (λi=>cT (gJ ps e i)) [ps[c]] (cV ps c):=λa e=>by
    rw[mL m,Ia,nv];rfl
   dsimp only;rw[a7,b6,aS (aI (aa:(c:Z)<(ps.length:Z))),show aO (c:Z)=((c+1:X):Z) from a9 aa];refine bF (P:=λs=>∃T:X->eA,s=(t,(n:Z),aC (n*n) (λb=>(T b).map aw),ps.map jm,())/\∀a e,a<n->e<n->py A P (kP (λg=>cT (a6 g)) (λh=>cT (gJ ps a h)) (λi=>cT (gJ ps e i)) (ps.take (c+1)) 0) (4*(c+1)) (T (e*n+a))) ?_ (by
    rintro _ ⟨U,rfl,a0⟩;exact bu.2 ⟨U,bq,a0⟩)
   rw[jM (by rw[b6];exact m),an5];refine bC (Jz m) (bC d1 ?_);dsimp only;refine bC (w 0 aa) (bC ci ?_);dsimp only;rw[a4,gp];rcases C with C|C
   ·rw[aD (aa:¬((ps[c].d.length:Z)=3)),bR];refine bu.2 ⟨V,bq,λa e r E=>?_⟩;obtain⟨dl,I,J⟩:=S a e r E;refine⟨aa,I,?_⟩;rw[J,O,kP,aA aa];show _=_+(_+(0:Rat));grind
   have N:cV ps c+1<n:=aa;obtain⟨y,d2,B⟩:=Qm f N;have v:∀a,a<n->bf A 1074 1024 1 (gJ ps a (cV ps c+1)):=λa _=>C7 j f N;obtain⟨d3,co,cs⟩:=GG j p o z B (l 1) u v S aa;obtain⟨d4,cv,c1⟩:=GG j p o B z (l 1) v u cs aa;obtain⟨ad,c2,dg⟩:=GG j p o B B (l 2) v v c1 aa;rw[aI (aa:((ps[c].d.length:Z)=3)),bI];refine bC (Jz m) ?_;rw[show aO (cV ps c:Z)=((cV ps c+1:X):Z) from a9 aa];refine bC d2 ?_;dsimp only;refine bC (w 1 aa) (bC co ?_);dsimp only;refine bC (w 1 aa) (bC cv ?_);dsimp only;refine bC (w 2 aa) (bC c2 ?_);dsimp only;refine bu.2 ⟨ad,bq,λa e r E=>?_⟩;obtain⟨dl,I,J⟩:=dg a e r E;refine⟨aa,I,?_⟩;rw[J,O,kP,b9 C];show _=_+(_+(0:Rat));grind
  rintro _ ⟨T,rfl,q⟩;dsimp only;rw[a7,b6,aP (aD (aa:¬((ps.length:Z)<(ps.length:Z))))];rw[cm] at q;exact bu.2 ⟨T,bq,q⟩
 rintro _ ⟨T,rfl,q⟩;dsimp only;refine bF (P:=λs=>s=(t,((n:Z),(n:Z),aC (n*n) (λb=>aw (lO ps n (b %n) (b/n))),()),())) ?_ (by rintro _ rfl;exact bu.2 bq);refine bP (n*n) (λb H=>H=((b:Z),t,aC (n*n) (λb=>(T b).map aw),((n:Z),(n:Z),aC b (λb=>aw (lO ps n (b %n) (b/n))),()),())) rfl ?_ ?_
 ·rintro b _ G rfl;have bl:0<n:=api λam=>(by rw[am] at G;omega);have Q:=amm b bl;have R:=aok G;obtain⟨ap,D,L⟩:=q (b %n) (b/n) Q R;rw[aph b n] at ap D L;obtain⟨K,v1,fL,ds,v4⟩:=Sl j p f o Q R;obtain⟨d0,d9,eD⟩:=bf.e9 D;have bx:lr (T b)=lO ps n (b %n) (b/n):=by
   have ax:hT (T b)=K:=Rat.intCast_inj.1 (aeL av (L.trans v4.symm));have an:fB K:=amh j ab ab ds;unfold lr oS;rw[v1,aB d0,ax,aB an]
  dsimp only;rw[a7,cU,aS (aI (aa:(b:Z)<((n*n:X):Z))),show aO (b:Z)=((b+1:X):Z) from a9 aa,jM (by rw[cU];exact G),kz];refine bC (Xq (λd l=>(D d l).ok j ab ab) aa) ?_;dsimp only;rw[bx,c9 (by rw[cU,amx];omega),bM];refine bu.2 ?_;show _=_;rw[r0]
 rintro _ rfl;dsimp only;rw[a7,cU,aP (aD (aa:¬(((n*n:X):Z)<((n*n:X):Z))))];exact bu.2 bq
end
end
section
section
variable {n C:X} {B:X->X->ak1} {Q:X->ak1}
def Fq (B:X->X->ak1) (Q:X->ak1) (n a:X):ak1:=nC (cQ (B (a %n) (a/n)) (dd (Q a)))
def jz (B:X->X->ak1) (Q:X->ak1) (n:X):X->Z
 |0=>0
 |t+1=>if jz B Q n t<(Fq B Q n t).getD 0 then(Fq B Q n t).getD 0 else jz B Q n t
def Jh (j:C=65536) (i:∀k l,bf C 1074 1024 1 (B k l)) (d:bf C 3222 3072 15 (Q a)):∃b,Fq B Q n a=Y b/\b.natAbs<=16*2^(C+3072)/\b=((B (a %n) (a/n)).getD 0-(Q a).getD 0).natAbs:=by
 have h:bf C 3222 3072 1 (B (a %n) (a/n)):=(i _ _).mono ab ab ab;obtain⟨⟨m,ax,_,e⟩,c⟩:=ant j ab h d.neg ab;refine⟨(m.natAbs:Z),?_,e,?_⟩
 ·unfold Fq;rw[ax];rfl
 rw[ax] at c;have f:=gy c;have g:(dd (Q a)).getD 0=-(Q a).getD 0:=(by rw[d.val];rfl);rw[f,g,Int.sub_eq_add_neg]
def Gj (c:C=65536) (b:∀h i,bf C 1074 1024 1 (B h i)) {a:X} (d:∀t,t<a->bf C 3222 3072 15 (Q t)):∀t,t<=a->(jz B Q n t).natAbs<=16*2^(C+3072)
 |0,_=>dj _
 |t+1,f=>by
  obtain⟨j,g,e,_⟩:=Jh (n:=n) c b (d t f);unfold jz;rw[g];split
  ·exact e
  exact Gj c b d t aa
def adT (b:C=65536) (t:n<=5) (f:∀v w,bf C 1074 1024 1 (B v w)) (g:∀a,a<n*n->bf C 3222 3072 15 (Q a)) {i:ny} (o:rM (p,())=Y (0,())) (q:vq (i,p.1,())=Y (((n:Z),(n:Z),kG B n,()),0,())) (r:AG (p,())=Y (((n:Z),(n:Z),aC (n*n) (λa=>aw (Q a)),()),0,())):vy (i,p,())=Y (aw (Y (jz B Q n (n*n))),0,()):=by
 have D:=q3 t;unfold vy;refine aj o ?_;dsimp only;rw[aP af];refine aj q ?_;dsimp only;rw[aP af];refine aj r ?_;dsimp only;refine aj (vS ab ab) ?_;dsimp only;rw[Y3];refine bQ.1 ?_;generalize E:((br,((br,([],())),((0:Z),()))):cP)=h;refine bF (P:=λz=>z=(h,aw (Y (jz B Q n (n*n))),())) ?_ (by rintro _ rfl;exact bu.2 bq);refine bP (n*n) (λa A=>A=((a:Z),h,((n:Z),(n:Z),kG B n,()),((n:Z),(n:Z),aC (n*n) (λa=>aw (Q a)),()),aw (Y (jz B Q n a)),())) rfl ?_ ?_
 ·rintro a _ d rfl;obtain⟨e,j,u,_⟩:=Jh (n:=n) b f (g a d);have s:=Gj (n:=n) b f g a aa;dsimp only;rw[aS (aI (show(a:Z)<ar (kG B n) by rw[a7];unfold kG;rw[cU];omega)),a9 aa];have ax:aq (kG B n) (a:Z)=Y (aw (B (a %n) (a/n))):=(by unfold kG;rw[eP (by rw[cU];exact d),kz]);have l:aq (aC (n*n) (λa=>aw (Q a))) (a:Z)=Y (aw (Q a)):=fR (h0 d);refine bC (y:=(h,((n:Z),(n:Z),kG B n,()),((n:Z),(n:Z),aC (n*n) (λa=>aw (Q a)),()),aw (Y (jz B Q n (a+1))),())) ?_ (bu.2 bq);refine aj ax (aj l (aj (Fp ((f _ _).ok b ab ab) ((g a d).ok b ab ab)) ?_));dsimp only;refine aj (W9 (k7 _ _)) ?_;have k:nC (cQ (B (a %n) (a/n)) (dd (Q a)))=Y e:=j;rw[k];dsimp only;refine aj (I9 (amh b ab ab u) (amh b ab ab s)) ?_;have m:jz B Q n (a+1)=if jz B Q n a<e then e else jz B Q n a:=by
   rw[jz,j];rfl
  dsimp only;rw[cW,m];by_cases c:jz B Q n a<e
  ·rw[aB ((Ob _ _).2 c),aB c]
  rw[aA (λx=>c ((Ob _ _).1 x)),aA c]
 rintro _ rfl;dsimp only;rw[aP (aD (show¬((n*n:X):Z)<ar (kG B n) by rw[a7];unfold kG;rw[cU];omega))];exact bu.2 bq
def aeC (b:C=65536) (t:n<=5) (f:∀v w,bf C 1074 1024 1 (B v w)) (g:∀a,a<n*n->bf C 3222 3072 15 (Q a)) {h:ny} (m:tD (p,())=Y (0,())) (o:vL (h,p.1,())=Y (((n:Z),(n:Z),kG B n,()),0,())) (q:Bh (p,())=Y (((n:Z),(n:Z),aC (n*n) (λa=>aw (Q a)),()),0,())):vN (h,p,())=Y (aw (Y (jz B Q n (n*n))),0,()):=by
 have A:=q3 t;unfold vN;refine aj m ?_;dsimp only;rw[aP af];refine aj o ?_;dsimp only;rw[aP af];refine aj q ?_;dsimp only;refine aj (y:=(aw (Y (jz B Q n (n*n))),())) ?_ bq;unfold I1;refine bQ.1 ?_;dsimp only;refine bF (P:=λx=>x=(iP,aw (Y (jz B Q n (n*n))),())) ?_ (by rintro _ rfl;exact bu.2 bq);refine bP (n*n) (λa z=>z=((a:Z),iP,aw (Y (jz B Q n a)),())) ?_ ?_ ?_
 ·show(_:Z×e0×e0×bw)=(_,iP,aw (Y 0),());rw[<-Bl];rfl
 ·rintro a _ e rfl;obtain⟨c,i,u,_⟩:=Jh (n:=n) b f (g a e);have s:=Gj (n:=n) b f g a aa;dsimp only;rw[aS (aI (show(a:Z)<ar (kG B n) by rw[a7];unfold kG;rw[cU];omega)),a9 aa];have ax:aq (kG B n) (a:Z)=Y (aw (B (a %n) (a/n))):=(by unfold kG;rw[eP (by rw[cU];exact e),kz]);have k:aq (aC (n*n) (λa=>aw (Q a))) (a:Z)=Y (aw (Q a)):=fR (h0 e);refine bC (y:=(iP,aw (Y (jz B Q n (a+1))),())) ?_ (bu.2 bq);refine aj ax (aj k (aj (Ck ((f _ _).ok b ab ab) ((g a e).ok b ab ab)) ?_));dsimp only;refine aj (LB (k7 _ _)) ?_;have j:nC (cQ (B (a %n) (a/n)) (dd (Q a)))=Y c:=i;rw[j];dsimp only;have r:tC (aw (Y (jz B Q n a)),aw (Y c),())=Y (bz (jz B Q n a<c),()):=by
   unfold tC;refine aj (SB (amh b ab ab s) (amh b ab ab u)) ?_;dsimp only;rw[cy.2 (WI _ _)]
  refine aj r ?_;have l:jz B Q n (a+1)=if jz B Q n a<c then c else jz B Q n a:=by rw[jz,i];rfl
  dsimp only;rw[cW,l];by_cases d:jz B Q n a<c
  ·rw[aB d,aB d]
  rw[aA d,aA d]
 rintro _ rfl;dsimp only;rw[aP (aD (show¬((n*n:X):Z)<ar (kG B n) by rw[a7];unfold kG;rw[cU];omega))];exact bu.2 bq
end
def QT:e8 [] 0:=⟨bq,λ_ a=>(by cases a),List.nodup_nil⟩
def Zq:rM (km,())=Y (2,()):=by unfold rM;refine aj (y:=.inr (2,())) ?_ bq;rw[aP ab];refine aj (y:=(bt,())) (Qf (o:=[]) (n:=0) ab QT) ?_;dsimp only;rw[aP af,aP ab]
def aex:tD (km,())=Y (2,()):=by
 classical
 unfold tD;refine aj (y:=.inr (2,())) ?_ bq;rw[aP ab];refine aj (y:=(bt,())) ((Lw (o:=[]) (n:=0) ab ab).trans (by rw[aI QT])) ?_;dsimp only;rw[aP af];refine aj (y:=(bt,())) ?_ bq;rw[aP ab]
def MS (a:c3):Prop:=(∃n b,n<=5/\hU n b a)\/a=km
def aek {n C:X} (i:C=65536) (h:hU n e p) (j:n<=5) (b:a<n*n):bf C 3222 3072 15 (lO e n (a %n) (a/n)):=by have k:0<n:=api λd=>(by rw[d] at b;omega);obtain⟨c,ax,f,g,_⟩:=Sl i bq h j (amm a k) (aok b);exact⟨c,ax,f,g⟩
def U1 (k:a<=5) (j:gK a b r d s) (c:MS p):∃f u,vy (((a:Z),(b:Z),r,d,s,()),p,())=Y (f,u,())/\vN (((a:Z),(b:Z),r,d,s,()),p,())=Y (f,u,())/\yg (f,f,())=Y (bt,()):=by
 obtain⟨C,e⟩:∃C:X,C=65536:=⟨_,bq⟩;have w:yg (iP,iP,())=Y (bt,()):=(by rw[Bl,<-KQ];exact Tl (fF _));rcases c with⟨n,F,q,c⟩|rfl
 ·have B:=c.or.1;by_cases g:iI a b r d s p.1=0
  ·obtain⟨h,rfl,t⟩:=CE g;obtain rfl:a=n:=(by rw[<-t.1,<-B]);have A:=(jI.1 h).1;have z:=(jI.1 h).2;have m:∀x y,bf C 1074 1024 1 (hF (cZ r d s a) p.1 x y):=λx y=>ali e (Ul (pK A (Bs z)) _ _);have o:∀l,l<a*a->bf C 3222 3072 15 (lO F a (l %a) (l/a)):=λl D=>aek e c q D;have i:=Gj (n:=a) e m o (a*a) (bg _);exact⟨_,_,adT e k m o (F4 c) (Vg k j h t) (Zr c q),aeC e k m o (Lu c) (aeF k j h t) (aeG c q),Tl λG E=>by
    cases E;exact amh e ab ab i⟩
  have v:p.1.length<=1000000:=aa;have i:(iI a b r d s p.1 !=0)=bt:=(by rw[fJ,aD g];rfl);refine⟨iP,iI a b r d s p.1,?_,?_,w⟩
  ·unfold vy;refine aj (F4 c) ?_;dsimp only;rw[aP af];refine aj (Vf j v g) ?_;dsimp only;rw[aS i];rfl
  unfold vN;refine aj (Lu c) ?_;dsimp only;rw[aP af];refine aj (aeE j v g) ?_;dsimp only;rw[aS i];rfl
 refine⟨iP,2,?_,?_,w⟩
 ·unfold vy;exact aj Zq bq
 unfold vN;exact aj aex bq
def UV {b:ak7} {i:iu} (l:a<=5) (m:gK a a s d b) (u:r.length=a) (k:iI a a s d b r=0->gU (iR a (fE (cZ s d b a)) r) i):∃e c,rv e/\MS e/\m1 (((a:Z),(a:Z),s,d,b,()),r,i,())=Y (e,c,())/\nF (((a:Z),(a:Z),s,d,b,()),r,i,())=Y (e,c,()):=by
 by_cases h:iI a a s d b r=0
 ·obtain⟨o,_,j⟩:=CE h;obtain⟨f,f2,g⟩:=MJ l m o j (k h);rcases X0 (A:=hF (cZ s d b a) r) (λv w=>fF _) (k h) (sa j) (aa:a<=12) j with c|⟨q,t,c,p⟩
  ·rw[c] at f f2 g;exact⟨_,_,g,.inr bq,f,f2⟩
  rw[c] at f f2 g;exact⟨_,_,g,.inl ⟨a,q,l,p⟩,f,f2⟩
 obtain⟨ax,n⟩:=MI m aa h i;exact⟨_,_,Gl,.inr bq,ax,n⟩
end
def UU {c:ak7} {b:iu} (p:a<=5) (h:gK a a r d s) (g:fQ a a r d s=0) (e:e8 c a) (C:b.length<=5) (o:∀f∈b,f.2.2.1.length<=5) (q:¬gU (iR a (fE (cZ r d s a)) c) b):m1 (((a:Z),(a:Z),r,d,s,()),c,b,())=Y (km,211,())/\nF (((a:Z),(a:Z),r,d,s,()),c,b,())=Y (km,211,()):=by
 classical
 have n:kJ a r d s:=kJ.BX p g;obtain⟨z,B,u⟩:=HF n h g e;have A:=sa (E:=fE (cZ r d s a)) e;have t:=yE a (fE (cZ r d s a)) c;have m:=JT (E:=fE (cZ r d s a)) (dk p ab) e;have D:=e.1;have v:iO (iR a (fE (cZ r d s a)) c)=0:=qx.2 ⟨aa,t⟩;have w:tK (iR a (fE (cZ r d s a)) c) b=211:=(by unfold tK;rw[aA (cw v),aA q]);have j:=ML m (l:=b) aa (λf i=>by have:=o f i;omega);have k:=MM m (l:=b) aa (λf i=>by have:=o f i;omega);rw[w] at j k;constructor
 ·unfold m1;refine aj u ?_;dsimp only;rw[aP af];refine aj bq (aj j ?_);dsimp only;rw[aS af];rfl
 unfold nF;refine aj (y:=(211,())) ?_ bq;unfold vK;refine aj (Cd h aa) ?_;have x:(if fQ a a r d s≠0 then fQ a a r d s else if a≠a then 5 else if e8 c a then 0 else 90)=0:=(by rw[ck (cw g),ck (cw bq),b9 e]);rw[x];dsimp only;rw[aP af];refine aj (Sx n h g e) (aj k ?_);dsimp only;rw[aS af]
def UT {o:ak7} {c:iu} (m:a<=5) (g:gK a b r d s) (u:o.length<=1000000) (q:c.length<=5) (t:∀v∈c,v.2.2.1.length<=5):∃e h,rv e/\m1 (((a:Z),(b:Z),r,d,s,()),o,c,())=Y (e,h,())/\nF (((a:Z),(b:Z),r,d,s,()),o,c,())=Y (e,h,()):=by
 by_cases i:iI a b r d s o=0
 ·obtain⟨k,rfl,l⟩:=CE i;by_cases j:gU (iR a (fE (cZ r d s a)) o) c
  ·obtain⟨f,f2,p⟩:=MJ m g k l j;exact⟨_,_,p,f,f2⟩
  obtain⟨f,f2⟩:=UU m g k l q t j;exact⟨_,_,Gl,f,f2⟩
 obtain⟨ax,n⟩:=MI g u i c;exact⟨_,_,Gl,ax,n⟩
def ad7 (j:d.length<=9223372036854775807) (h k:Z):ah (EK (d,h,k,bt,())) λx=>
 ∃(a:X) (f b g e:ak7) (c:iu),a<=5/\gK a a f b g/\e.length=a/\x=(((a:Z),(a:Z),f,b,g,()),e,c,())/\(iI a a f b g e=0->gU (iR a (fE (cZ f b g a)) e) c)/\c.length<=5/\∀l∈c,l.2.2.1.length<=5:=by
 unfold EK;refine bC (wq h (n:=6) ab ab) ?_;have A:=yY h (n:=6) ab;dsimp only;generalize qQ h 6=a at*;refine bF (MQ j (aa:a<=5) (aa:a<=5) k) ?_;rintro⟨y,_⟩ z;dsimp only;refine bF (P:=λu=>rh a a u.2.1) ?_ ?_
 ·rw[bI];refine bF (UK j (aa:a<=5) k) ?_;rintro⟨p,_⟩ i;exact bu.2 i
 rintro⟨_,p,_⟩ i;dsimp only at i|-;refine bF (Vb j (n:=a) aa) ?_;rintro⟨e,_⟩ m;dsimp only at m|-;obtain⟨f,b,g,rfl,aE,v,w⟩:=i.ex;have o:=rh.small (aa:a<=5) (aa:a<=5) aE v w;refine bF (Yt aa o j) ?_;rintro _ ⟨c,rfl,r,s,t⟩;exact bu.2 ⟨a,f,b,g,e,c,aa,o,m,bq,t,r,λl q=>(s l q).2⟩
def U5 (j:ak7) (b a e d:Z) (h:j.length<=9223372036854775807):IZ (j,b,a,e,d,())=Y (bt,()):=by unfold IZ;refine bQ.1 ?_;refine bC (wq b (n:=4) ab ab) ?_;have I:=yY b (n:=4) ab;dsimp only;refine bC (wq a (n:=4) ab ab) ?_;have H:=yY a (n:=4) ab;dsimp only;generalize qQ b 4=c at*;generalize qQ a 4=f at*;refine bF (MQ h (aa:c<=5) (aa:f<=5) d) ?_;rintro⟨C,_⟩ g;dsimp only at g|-;obtain⟨N,J,R,rfl,aE,z,A⟩:=g.ex;have i:=rh.small (aa:c<=5) (aa:f<=5) aE z A;refine bF (ad7 h e d) ?_;rintro _ ⟨L,O,K,S,k,M,u,w,v,rfl,s,x,y⟩;dsimp only;obtain⟨G,E,q,r,f2⟩:=UT (aa:c<=5) i (o:=k) aa x y;obtain⟨P,Q,_,t,_,B⟩:=UV u w v s;obtain⟨D,F,l,m,p⟩:=U1 (aa:c<=5) i t;refine bC r ?_;dsimp only;refine bC f2 ?_;dsimp only;refine bC B ?_;dsimp only;refine bC l ?_;dsimp only;refine bC m ?_;dsimp only;rw[aS ac];refine bC (afB q) ?_;dsimp only;rw[aS af,aS ac];refine bC p ?_;dsimp only;rw[aS af];exact bC Wa (bu.2 bq)
end Go.l0
end
