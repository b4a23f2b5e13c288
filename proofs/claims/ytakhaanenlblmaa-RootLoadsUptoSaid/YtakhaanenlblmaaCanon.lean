/- Reading and writing of items are inverse: plain Lean. -/
import Derived.Test.YtakhaanenlblmaaSplA
set_option linter.unusedSimpArgs false
set_option linter.unusedVariables false
namespace Go.Proofs.Ytakhaanenlblmaa
open Go.RowKit
mutual
def encP:Pit→List UInt8
 | .txt t=>textB t
 | .lst ks=>headB 192 (encPL ks).length++encPL ks
def encPL:List Pit→List UInt8
 | []=>[]
 | k::ks=>encP k++encPL ks
end
theorem textB_ne (t:List UInt8):textB t≠[]:=by
 unfold textB
 split
 ·rename_i h;intro e;rw [e] at h;simp at h
 ·unfold headB;split <;> simp
theorem headB_ne (base n:Nat):headB base n≠[]:=by unfold headB;split <;> simp
theorem encP_ne (p:Pit):encP p≠[]:=by
 cases p with
 | txt t=>rw [encP];exact textB_ne t
 | lst ks=>rw [encP];simp [headB_ne]
theorem numB_back (l:List UInt8) (hl:l.length≤8) (h0:l.head?≠some 0):numB (numL l)=l:=by
 have h:=num_same l
 rw [last_small l (by omega)] at h
 have hok:okNum l=true:=by unfold okNum;simp [h0];omega
 rw [hok] at h
 simpa using h
theorem hdr_back {c:UInt8} {base:Nat} {r r':List UInt8} {k:Nat} (hb:base≤192) (h1:base≤c.toNat) (h:hdr c.toNat base r=some (k,r')):c::r=headB base k++r':=by
 unfold hdr at h
 split at h
 ·simp only [Option.some.injEq,Prod.mk.injEq] at h
  obtain ⟨rfl,rfl⟩:=h
  unfold headB
  rw [if_pos (by omega),show base+(c.toNat - base)=c.toNat from by omega]
  simp
 ·rename_i hs
  split at h
  ·simp at h
  ·rename_i hlen
   split at h
   ·simp at h
   ·rename_i hz
    split at h
    ·simp at h
    ·rename_i h48
     simp only [Option.some.injEq,Prod.mk.injEq] at h
     obtain ⟨rfl,rfl⟩:=h
     have hl:(r.take (c.toNat - base - 48+1)).length=c.toNat - base - 48+1:=by rw [List.length_take];omega
     have hnb:=numB_back (r.take (c.toNat - base - 48+1)) (by rw [hl];omega) (fun e=>hz (.inl e))
     unfold headB
     rw [if_neg h48,hnb,hl,show base+48+(c.toNat - base - 48+1 - 1)=c.toNat from by omega,List.cons_append,List.take_append_drop]
     simp
theorem parL_back {f:List UInt8→Option (Pit × List UInt8)} (hf:∀ b p r,f b=some (p,r)→b=encP p++r):∀ (m:Nat) (b:List UInt8) (ps:List Pit),parL f m b=some ps→b=encPL ps
 | m,[],ps,h=>by rw [parL_nil] at h;simp at h;subst h;simp [encPL]
 | 0,_::_,ps,h=>by simp [parL] at h
 | m+1,x::b,ps,h=>by
  simp only [parL] at h
  cases hx:f (x::b) with
  | none=>rw [hx] at h;simp at h
  | some pr =>
   obtain ⟨p,r⟩:=pr
   rw [hx] at h
   dsimp only at h
   cases hr:parL f m r with
   | none=>rw [hr] at h;simp at h
   | some qs =>
    rw [hr] at h
    simp only [Option.some.injEq] at h
    subst h
    rw [hf _ _ _ hx,parL_back hf m r qs hr,encPL]
theorem par_back:∀ (n:Nat) (b:List UInt8) (p:Pit) (r:List UInt8),par n b=some (p,r)→b=encP p++r
 | 0,[],p,r,h=>by simp [par] at h
 | n+1,[],p,r,h=>by simp [par] at h
 | 0,_::_,p,r,h=>by simp [par] at h
 | n+1,c::b,p,r,h=>by
  unfold par at h
  split at h
  ·rename_i hc
   simp only [Option.some.injEq,Prod.mk.injEq] at h
   obtain ⟨rfl,rfl⟩:=h
   rw [encP,textB,if_pos (by simp;omega)]
   rfl
  ·rename_i h128
   split at h
   ·split at h
    ·simp at h
    ·rename_i k r' hh
     split at h
     ·simp at h
     ·rename_i hk
      simp only [Option.some.injEq,Prod.mk.injEq] at h
      obtain ⟨rfl,rfl⟩:=h
      have hkl:k≤r'.length:=by have:¬ r'.length<k:=fun h=>hk (.inl h);omega
      have hl:(r'.take k).length=k:=by rw [List.length_take];omega
      rw [hdr_back (by omega) (by omega) hh,encP,textB,hl,if_neg,List.append_assoc,List.take_append_drop]
      rintro ⟨e1,e2⟩
      apply hk
      right
      subst e1
      cases r' with
      | nil=>simp at hkl
      | cons y t=>unfold own1;simp at e2 ⊢;omega
   ·split at h
    ·simp at h
    ·rename_i k r' hh
     split at h
     ·simp at h
     ·rename_i hk
      split at h
      ·simp at h
      ·rename_i ks hks
       simp only [Option.some.injEq,Prod.mk.injEq] at h
       obtain ⟨rfl,rfl⟩:=h
       have hl:(r'.take k).length=k:=by rw [List.length_take];omega
       have e:=parL_back (par_back n) k _ ks hks
       rw [hdr_back (by omega) (by omega) hh,encP,← e,hl,List.append_assoc,List.take_append_drop]
theorem head_read (base k:Nat) (hb:base=128∨base=192) (hk:k<18446744073709551616):∃ (c:UInt8) (rest:List UInt8),headB base k=c::rest∧base≤c.toNat∧c.toNat<base+64∧∀ x,hdr c.toNat base (rest++x)=some (k,x):=by
 by_cases h48:k<48
 ·refine ⟨UInt8.ofNat (base+k),[],by unfold headB;rw [if_pos h48],?_⟩
  have e:(UInt8.ofNat (base+k)).toNat=base+k:=by rw [UInt8.toNat_ofNat',Nat.mod_eq_of_lt (by omega)]
  rw [e]
  refine ⟨by omega,by omega,fun x=>?_⟩
  unfold hdr
  rw [if_pos (by omega),show base+k - base=k from by omega];rfl
 ·have h8:=numB_8 k hk
  have h1:=numB_pos k (by omega) (by unfold W256;omega)
  have hn:=numB_num k (by unfold W256;omega)
  have hz:(numB k).head?≠some 0:=bare_head (wb k)
  refine ⟨UInt8.ofNat (base+48+((numB k).length - 1)),numB k,by unfold headB;rw [if_neg h48],?_⟩
  have e:(UInt8.ofNat (base+48+((numB k).length - 1))).toNat=base+48+((numB k).length - 1):=by rw [UInt8.toNat_ofNat',Nat.mod_eq_of_lt (by omega)]
  rw [e]
  refine ⟨by omega,by omega,fun x=>?_⟩
  have e2:base+48+((numB k).length - 1) - base - 48+1=(numB k).length:=by omega
  unfold hdr
  rw [if_neg (by omega),e2,if_neg (by simp),List.take_left' rfl,List.drop_left' rfl,if_neg (by rintro (h|h);exact hz h;omega),hn,if_neg h48]
theorem parL_read {f:List UInt8→Option (Pit × List UInt8)}:∀ (ks:List Pit) (m:Nat),(encPL ks).length≤m→(∀ k∈ks,∀ r,f (encP k++r)=some (k,r))→parL f m (encPL ks)=some ks
 | [],m,_,_=>by rw [encPL,parL_nil]
 | k::ks,m,hm,hf=>by
  have hne:=encP_ne k
  have hpos:0<(encP k).length:=by
   rcases Nat.eq_zero_or_pos (encP k).length with h|h
   ·exact absurd (List.eq_nil_of_length_eq_zero h) hne
   ·exact h
  rw [encPL] at hm ⊢
  rw [List.length_append] at hm
  obtain ⟨m',rfl⟩:∃ m',m=m'+1:=⟨m - 1,by omega⟩
  rw [parL_some (by simp [hne]) (hf k List.mem_cons_self (encPL ks)),parL_read ks m' (by omega) (fun j hj=>hf j (List.mem_cons_of_mem _ hj))]
  rfl
theorem encPL_mem {k:Pit}:∀ {ks:List Pit},k∈ks→(encP k).length≤(encPL ks).length
 | x::ks,h=>by
  rw [encPL,List.length_append]
  rcases List.mem_cons.1 h with rfl|h
  ·omega
  ·have:=encPL_mem h;omega
theorem par_read:∀ (n:Nat) (p:Pit) (r:List UInt8),(encP p).length≤n→(encP p).length<18446744073709551616→par n (encP p++r)=some (p,r)
 | 0,p,r,h,_=>absurd (List.eq_nil_of_length_eq_zero (by omega)) (encP_ne p)
 | n+1,.txt t,r,h,h64=>by
  rw [encP] at h h64 ⊢
  unfold textB at h h64 ⊢
  by_cases h1:t.length=1∧(t[0]?.getD 0).toNat<128
  ·rw [if_pos h1]
   obtain ⟨x,rfl⟩:∃ x,t=[x]:=List.length_eq_one_iff.1 h1.1
   have hx:x.toNat<128:=by simpa using h1.2
   simp [par,hx]
  ·rw [if_neg h1] at h h64 ⊢
   rw [List.length_append] at h h64
   obtain ⟨c,rest,e,c1,c2,hr⟩:=head_read 128 t.length (.inl rfl) (by omega)
   rw [e,List.append_assoc,List.cons_append,par,if_neg (by omega),if_pos (by omega),hr (t++r)]
   dsimp only
   rw [if_neg,List.take_left' rfl,List.drop_left' rfl]
   rintro (h2|h2)
   ·rw [List.length_append] at h2;omega
   ·unfold own1 at h2
    simp only [Bool.and_eq_true,decide_eq_true_eq] at h2
    apply h1
    refine ⟨h2.1,?_⟩
    obtain ⟨x,rfl⟩:∃ x,t=[x]:=List.length_eq_one_iff.1 h2.1
    simpa using h2.2
 | n+1,.lst ks,r,h,h64=>by
  rw [encP] at h h64 ⊢
  rw [List.length_append] at h h64
  obtain ⟨c,rest,e,c1,c2,hr⟩:=head_read 192 (encPL ks).length (.inr rfl) (by omega)
  have hpos:1≤(headB 192 (encPL ks).length).length:=by rw [e];simp
  rw [e,List.append_assoc,List.cons_append,par,if_neg (by omega),if_neg (by omega),hr (encPL ks++r)]
  dsimp only
  rw [if_neg (by simp),List.take_left' rfl,List.drop_left' rfl,parL_read ks _ (Nat.le_refl _) (fun k hk r'=>par_read n k r' (by have:=encPL_mem hk;omega) (by have:=encPL_mem hk;omega))]
theorem encP_inj {p q:Pit} (hp:(encP p).length<18446744073709551616) (h:encP p=encP q):p=q:=by
 have h1:=par_read (encP p).length p [] (Nat.le_refl _) hp
 have h2:=par_read (encP q).length q [] (Nat.le_refl _) (by rw [← h];exact hp)
 rw [h,h2] at h1
 simpa using h1.symm
end Go.Proofs.Ytakhaanenlblmaa
